/- Proved: months can be added one behind the other, where no month's end cuts the day; there and back is where one was, up to the 28th. Conditions: none but that the arguments are values of their Go types. -/
import Derived.Test.YtemijfjchoimpaaPCalStepsx2
import Derived.Test.YtemijfjchoimpaaEvM
import Derived.Test.YtemijfjchoimpaaCalM
set_option linter.unusedSimpArgs false
set_option linter.unusedVariables false
namespace Go.Proofs.Ytemijfjchoimpaa.Pure
open Go.RowKit Go.Proofs.Ytemijfjchoimpaa.PCalSteps Go.Proofs.YtemijfjchoimpaaW.PrintWords Go.Proofs.YtemijfjchoimpaaW.PrintLast Go.Proofs.Ytemijfjchoimpaa.EvM Go.Proofs.Ytemijfjchoimpaa.CalM 
/-! ### cal: what its functions answer -/
theorem is_eq (n : Int) : cal_is.f n = some (decide (1 ≤ n ∧ n ≤ 3652059)) := by
  unfold cal_is.f
  by_cases h : n ≥ 1
  · simp [h]
  · simp [h]
theorem is_in {n : Int} (h1 : 1 ≤ n) (h2 : n ≤ 3652059) : cal_is.f n = some true := by rw [is_eq]; simp [h1, h2]
theorem is_out {n : Int} (h : ¬ (1 ≤ n ∧ n ≤ 3652059)) : cal_is.f n = some false := by rw [is_eq]; simp [h]
theorem weekday_in {n : Int} (h1 : 1 ≤ n) (h2 : n ≤ 3652059) : cal_Weekday.f n = some ((n - 1) % 7, 0) := by
  unfold cal_Weekday.f
  rw [is_in h1 h2, Option.bind_some, if_pos rfl, w64 (by omega) (by omega), tm (by omega)]
theorem weekday_out {n : Int} (h : ¬ (1 ≤ n ∧ n ≤ 3652059)) : cal_Weekday.f n = some (0, 1) := by
  unfold cal_Weekday.f
  rw [is_out h, Option.bind_some, if_neg (by simp)]
theorem leap_eq (y : Int) (h : 0 ≤ y) : cal_leap.f y = some (decide (lp y = 1)) := by
  unfold cal_leap.f lp
  rw [tm h, tm h, tm h]
  by_cases a : y % 4 = 0
  · by_cases b : y % 100 = 0
    · by_cases c : y % 400 = 0 <;> simp [a, b, c]
    · have c : ¬ y % 400 = 0 := by omega
      simp [a, b, c]
  · have b : ¬ y % 100 = 0 := by omega
    have c : ¬ y % 400 = 0 := by omega
    simp [a, b, c]
theorem length_ev (y m : Int) (hy : 0 ≤ y) (h1 : 1 ≤ m) (h2 : m ≤ 12) : Ev (fun k => cal_length.f k y m) (len y m) := by
  unfold cal_length.f
  by_cases e : m = 2
  · subst e
    simp only [if_true, leap_eq y hy, Option.bind_some]
    refine succ ?_
    have := lp01 y
    by_cases c : lp y = 1
    · simp only [cal_length.j0, c, decide_true, if_true]
      exact konst (by simp [len, c])
    · simp only [cal_length.j0, c, decide_false, if_false, if_true]
      exact konst (by simp [len]; omega)
  · simp only [if_neg e]
    refine succ ?_
    simp only [cal_length.j0, if_neg e, if_neg (show ¬ (false = true) by simp)]
    refine konst ?_
    unfold len
    obtain rfl | rfl | rfl | rfl | rfl | rfl | rfl | rfl | rfl | rfl | rfl : m = 1 ∨ m = 3 ∨ m = 4 ∨ m = 5 ∨ m = 6 ∨ m = 7 ∨ m = 8 ∨ m = 9 ∨ m = 10 ∨ m = 11 ∨ m = 12 := by omega
    all_goals (simp; decide +kernel)
theorem ahead_eq {y : Int} (h1 : 1 ≤ y) (h2 : y ≤ 100000) : cal_ahead.f y = some (ah y) := by
  unfold cal_ahead.f ah
  rw [w64 (x := y - 1) (by omega) (by omega)]
  simp only [td (show 0 ≤ y - 1 by omega)]
  rw [w64 (x := 365 * (y - 1)) (by omega) (by omega), w64 (x := (y - 1) / 4) (by omega) (by omega), w64 (x := (y - 1) / 100) (by omega) (by omega), w64 (x := (y - 1) / 400) (by omega) (by omega), w64 (x := 365 * (y - 1) + _) (by omega) (by omega), w64 (x := _ - (y - 1) / 100) (by omega) (by omega), w64 (by omega) (by omega)]
theorem number_l0 (y M : Int) (hy : 1 ≤ y) (hy2 : y ≤ 9999) (hM : M ≤ 12) : ∀ (t : Nat) (m x : Int), 1 ≤ m → m ≤ M → (M - m).toNat ≤ t → -1000000 ≤ x → x ≤ 4000000 + 31 * m → Ev (fun k => cal_Number.l0 k y M x m) (x - cum y m + cum y M, 0) := by
  intro t
  induction t with
  | zero =>
    intro m x h1 h2 h3 h4 h5
    obtain rfl : m = M := by omega
    refine succ ?_
    simp only [cal_Number.l0, if_neg (show ¬ m < m by omega)]
    exact konst (by simp)
  | succ t ih =>
    intro m x h1 h2 h3 h4 h5
    by_cases e : m < M
    · refine succ ?_
      simp only [cal_Number.l0, if_pos e]
      refine Ev.bind (length_ev y m (by omega) h1 (by omega)) ?_
      have lb := len_bd y m
      simp only [w64 (x := x + len y m) (by omega) (by omega), w64 (x := m + 1) (by omega) (by omega)]
      refine same (ih (m + 1) (x + len y m) (by omega) (by omega) (by omega) (by omega) (by omega)) ?_
      rw [cum_succ y m h1 (by omega)]
      simp only [Prod.mk.injEq, and_true]; omega
    · obtain rfl : m = M := by omega
      refine succ ?_
      simp only [cal_Number.l0, if_neg (show ¬ m < m by omega)]
      exact konst (by simp)
/-- What cal.Number answers. -/
def docNumber (y m d : Int) : Int × Int := if y < 1 ∨ y > 9999 then (0, 1) else if m < 1 ∨ m > 12 ∨ d < 1 ∨ d > len y m then (0, 9) else (ah y + cum y m + d, 0)
theorem number_ev (y m d : Int) : Ev (fun k => cal_Number.f k y m d) (docNumber y m d) := by
  unfold cal_Number.f docNumber
  by_cases a : y < 1
  · simp only [if_pos a, a, true_or, if_true]
    refine succ ?_
    simp only [cal_Number.j0, if_true]
    exact konst rfl
  · simp only [if_neg a]
    refine succ ?_
    by_cases b : y > 9999
    · simp only [cal_Number.j0, b, decide_true, or_true, if_true]
      exact konst rfl
    · simp only [cal_Number.j0, a, b, decide_false, or_false, if_false, if_neg (show ¬ (false = true) by simp)]
      by_cases c : m < 1
      · simp only [c, if_true, true_or]; exact konst rfl
      · by_cases c2 : m > 12
        · simp only [c, c2, if_true, if_false, true_or, false_or]; exact konst rfl
        · by_cases c3 : d < 1
          · simp only [c, c2, c3, if_true, if_false, true_or, false_or]; exact konst rfl
          · simp only [c, c2, c3, if_false, false_or]
            refine Ev.bind (length_ev y m (by omega) (by omega) (by omega)) ?_
            by_cases c4 : d > len y m
            · simp only [c4, if_true]; exact konst rfl
            · have lb := len_bd y m
              have := ah_bd (show 1 ≤ y by omega) (show y ≤ 10000 by omega)
              simp only [c4, if_false, ahead_eq (show 1 ≤ y by omega) (show y ≤ 100000 by omega), Option.bind_some, w64 (x := ah y + d) (by omega) (by omega)]
              refine same (number_l0 y m (by omega) (by omega) (by omega) 12 1 _ (by omega) (by omega) (by omega) (by omega) (by omega)) ?_
              rw [cum1]
              simp only [Prod.mk.injEq, and_true]; omega
theorem civil_l1 (y : Int) (hy : 1 ≤ y) (hy2 : y ≤ 9999) : ∀ (t : Nat) (m x : Int), 1 ≤ m → m ≤ 12 → (12 - m).toNat ≤ t → 1 ≤ x → x + cum y m ≤ cum y 13 → ∃ m' d, Civ (x + cum y m + ah y) y m' d ∧ Ev (fun k => cal_civil.l1 k x y m) (y, m', d) := by
  intro t
  induction t with
  | zero =>
    intro m x h1 h2 h3 h4 h5
    obtain rfl : m = 12 := by omega
    have c := cum_succ y 12 (by omega) (by omega)
    have c13 : cum y (12 + 1) = cum y 13 := rfl
    refine ⟨12, x, ⟨by omega, by omega, by omega, by omega, by omega⟩, succ ?_⟩
    simp only [cal_civil.l1]
    refine Ev.bind (length_ev y 12 (by omega) h1 (by omega)) ?_
    simp only [if_neg (show ¬ x > len y 12 by omega)]
    exact konst rfl
  | succ t ih =>
    intro m x h1 h2 h3 h4 h5
    have lb := len_bd y m
    have c := cum_succ y m h1 h2
    have cb := cum_bd y 13 (by omega) (by omega)
    have cm := cum_bd y m (by omega) (by omega)
    by_cases e : x > len y m
    · by_cases e2 : m = 12
      · exfalso
        subst e2
        have c13 : cum y (12 + 1) = cum y 13 := rfl
        omega
      · obtain ⟨m', d, hc, he⟩ := ih (m + 1) (x - len y m) (by omega) (by omega) (by omega) (by omega) (by omega)
        refine ⟨m', d, by rw [show x + cum y m + ah y = x - len y m + cum y (m + 1) + ah y by omega]; exact hc, succ ?_⟩
        simp only [cal_civil.l1]
        refine Ev.bind (length_ev y m (by omega) h1 (by omega)) ?_
        simp only [if_pos e]
        refine Ev.bind (length_ev y m (by omega) h1 (by omega)) ?_
        simp only [w64 (x := x - len y m) (by omega) (by omega), w64 (x := m + 1) (by omega) (by omega)]
        exact he
    · refine ⟨m, x, ⟨by omega, by omega, by omega, by omega, by omega⟩, succ ?_⟩
      simp only [cal_civil.l1]
      refine Ev.bind (length_ev y m (by omega) h1 (by omega)) ?_
      simp only [if_neg e]
      exact konst rfl
theorem civil_l0 (n : Int) (h1 : 1 ≤ n) (h2 : n ≤ 3652059) : ∀ (t : Nat) (y : Int), 1 ≤ y → y ≤ 9999 → (9999 - y).toNat ≤ t → ah y < n → ∃ y' m' d, Civ n y' m' d ∧ Ev (fun k => cal_civil.l0 k n y) (y', m', d) := by
  have stop : ∀ y : Int, 1 ≤ y → y ≤ 9999 → ah y < n → ¬ ah (y + 1) < n → ∃ y' m' d, Civ n y' m' d ∧ Ev (fun k => cal_civil.l0 k n y) (y', m', d) := by
    intro y hy hy2 ha hs
    have s := ah_succ y
    have ab := ah_bd hy (show y ≤ 10000 by omega)
    have c13 := cum13 y
    have l := lp01 y
    obtain ⟨m', d, hc, he⟩ := civil_l1 y hy hy2 12 1 (n - ah y) (by omega) (by omega) (by omega) (by omega) (by rw [cum1]; omega)
    rw [cum1] at hc
    refine ⟨y, m', d, by rw [show n = n - ah y + 0 + ah y by omega]; exact hc, succ ?_⟩
    simp only [cal_civil.l0, w64 (x := y + 1) (by omega) (by omega), ahead_eq (show 1 ≤ y + 1 by omega) (show y + 1 ≤ 100000 by omega), Option.bind_some, if_neg hs, ahead_eq hy (show y ≤ 100000 by omega), w64 (x := n - ah y) (by omega) (by omega)]
    exact he
  intro t
  induction t with
  | zero =>
    intro y hy hy2 ht ha
    obtain rfl : y = 9999 := by omega
    have : ah (9999 + 1) = 3652059 := by decide
    exact stop 9999 hy hy2 ha (by omega)
  | succ t ih =>
    intro y hy hy2 ht ha
    by_cases hs : ah (y + 1) < n
    · have : y ≠ 9999 := by
        rintro rfl
        have : ah (9999 + 1) = 3652059 := by decide
        omega
      obtain ⟨y', m', d, hc, he⟩ := ih (y + 1) (by omega) (by omega) (by omega) hs
      refine ⟨y', m', d, hc, succ ?_⟩
      simp only [cal_civil.l0, w64 (x := y + 1) (by omega) (by omega), ahead_eq (show 1 ≤ y + 1 by omega) (show y + 1 ≤ 100000 by omega), Option.bind_some, if_pos hs]
      exact he
    · exact stop y hy hy2 ha hs
theorem civil_ev (n : Int) (h1 : 1 ≤ n) (h2 : n ≤ 3652059) : ∃ y m d, Civ n y m d ∧ 1 ≤ y ∧ y ≤ 9999 ∧ Ev (fun k => cal_civil.f k n) (y, m, d) := by
  obtain ⟨y, m, d, hc, he⟩ := civil_l0 n h1 h2 9999 (n / 366 + 1) (by omega) (by omega) (by omega) (by unfold ah; omega)
  have b := hc.bounds h1 h2
  refine ⟨y, m, d, hc, b.1, b.2, ?_⟩
  unfold cal_civil.f
  rw [td (by omega), w64 (x := n / 366) (by omega) (by omega), w64 (x := n / 366 + 1) (by omega) (by omega)]
  exact he
theorem civil_at {n y m d : Int} (hc : Civ n y m d) (h1 : 1 ≤ n) (h2 : n ≤ 3652059) : Ev (fun k => cal_civil.f k n) (y, m, d) := by
  obtain ⟨y', m', d', hc', _, _, he⟩ := civil_ev n h1 h2
  obtain ⟨rfl, rfl, rfl⟩ := hc.uniq hc'
  exact he
theorem awake03 : Ev (fun k => passbooklaw03_awake.f k) true := Ev.of passbooklaw03_awake.mono (k := 60) (by decide +kernel)
theorem civ_ex (n : Int) (h1 : 1 ≤ n) (h2 : n ≤ 3652059) : ∃ y m d, Civ n y m d ∧ 1 ≤ y ∧ y ≤ 9999 := by
  obtain ⟨y, m, d, hc, a, b, _⟩ := civil_ev n h1 h2
  exact ⟨y, m, d, hc, a, b⟩
theorem Civil_at {n y m d : Int} (hc : Civ n y m d) (h1 : 1 ≤ n) (h2 : n ≤ 3652059) : Ev (fun k => cal_Civil.f k n) (y, m, d, 0) := by
  unfold cal_Civil.f
  simp only [is_in h1 h2, Option.bind_some, if_true]
  refine Ev.bind (civil_at hc h1 h2) ?_
  exact konst rfl
theorem Civil_out {n : Int} (h : ¬ (1 ≤ n ∧ n ≤ 3652059)) : Ev (fun k => cal_Civil.f k n) (0, 0, 0, 1) := by
  unfold cal_Civil.f
  simp only [is_out h, Option.bind_some, if_neg (show ¬ (false = true) by simp)]
  exact konst rfl
/-- The day so many months later: M counts the months from year 0 on. -/
def addM (M d : Int) : Int × Int := if M < 12 ∨ M ≥ 120000 then (0, 4) else (ah (M / 12) + cum (M / 12) (M % 12 + 1) + min d (len (M / 12) (M % 12 + 1)), 0)
theorem mn_eq (a b : Int) : mn a b = min a b := by unfold mn; omega
theorem addmonths_ev {n y m d k : Int} (hc : Civ n y m d) (h1 : 1 ≤ n) (h2 : n ≤ 3652059) (hk1 : -9223372036854775808 ≤ k) (hk2 : k ≤ 9223372036854775807) : Ev (fun K => cal_AddMonths.f K n k) (addM (12 * y + m - 1 + k) d) := by
  have b := hc.bounds h1 h2
  have m1 := hc.m1; have m12 := hc.m12; have d1 := hc.d1; have dl := hc.dl
  unfold cal_AddMonths.f
  simp only [is_in h1 h2, Option.bind_some, if_true]
  refine Ev.bind (civil_at hc h1 h2) ?_
  have out : k < -119988 ∨ k > 119988 → Ev (fun K => cal_AddMonths.j0 K k y m d true) (addM (12 * y + m - 1 + k) d) := by
    intro ho
    refine succ ?_
    simp only [cal_AddMonths.j0, if_true]
    refine konst ?_
    unfold addM
    rw [if_pos (by omega)]
  by_cases a : k < -119988
  · simp only [if_pos a]; exact out (.inl a)
  · simp only [if_neg a]
    by_cases c : k > 119988
    · simp only [c, decide_true]; exact out (.inr c)
    · simp only [c, decide_false]
      refine succ ?_
      simp only [cal_AddMonths.j0, if_neg (show ¬ (false = true) by simp), w64 (x := 12 * y) (by omega) (by omega), w64 (x := 12 * y + m) (by omega) (by omega), w64 (x := 12 * y + m - 1) (by omega) (by omega), w64 (x := 12 * y + m - 1 + k) (by omega) (by omega)]
      by_cases e : 12 * y + m - 1 + k < 12
      · simp only [if_pos e]
        refine succ ?_
        simp only [cal_AddMonths.j1, if_true]
        refine konst ?_
        unfold addM
        rw [if_pos (by omega)]
      · simp only [if_neg e, td (show 0 ≤ 12 * y + m - 1 + k by omega), tm (show 0 ≤ 12 * y + m - 1 + k by omega), w64 (x := (12 * y + m - 1 + k) / 12) (by omega) (by omega), w64 (x := (12 * y + m - 1 + k) % 12 + 1) (by omega) (by omega)]
        refine succ ?_
        by_cases f : (12 * y + m - 1 + k) / 12 > 9999
        · simp only [f, decide_true, cal_AddMonths.j1, if_true]
          refine konst ?_
          unfold addM
          rw [if_pos (by omega)]
        · simp only [f, decide_false, cal_AddMonths.j1, if_neg (show ¬ (false = true) by simp)]
          refine Ev.bind (length_ev _ _ (by omega) (by omega) (by omega)) (Ev.bind (number_ev _ _ _) (konst ?_))
          rw [mn_eq]
          have lb := len_bd ((12 * y + m - 1 + k) / 12) ((12 * y + m - 1 + k) % 12 + 1)
          unfold docNumber addM
          rw [if_neg (by omega), if_neg (by omega), if_neg (by omega)]
theorem addmonths_out {n k : Int} (h : ¬ (1 ≤ n ∧ n ≤ 3652059)) : Ev (fun K => cal_AddMonths.f K n k) (0, 1) := by
  unfold cal_AddMonths.f
  simp only [is_out h, Option.bind_some, if_neg (show ¬ (false = true) by simp)]
  exact konst rfl
theorem addM_ok {M d : Int} (h : (addM M d).2 = 0) : 12 ≤ M ∧ M < 120000 := by
  unfold addM at h
  split at h
  · simp at h
  · omega
theorem addM_val {M d : Int} (h1 : 12 ≤ M) (h2 : M < 120000) : addM M d = (ah (M / 12) + cum (M / 12) (M % 12 + 1) + min d (len (M / 12) (M % 12 + 1)), 0) := by
  unfold addM
  rw [if_neg (by omega)]
theorem addM_civ {M d : Int} (h1 : 12 ≤ M) (h2 : M < 120000) (hd : 1 ≤ d) : Civ (addM M d).1 (M / 12) (M % 12 + 1) (min d (len (M / 12) (M % 12 + 1))) := by
  have lb := len_bd (M / 12) (M % 12 + 1)
  rw [addM_val h1 h2]
  exact ⟨by omega, by omega, by omega, by omega, rfl⟩
theorem addM_range {M d : Int} (h1 : 12 ≤ M) (h2 : M < 120000) (hd : 1 ≤ d) : 1 ≤ (addM M d).1 ∧ (addM M d).1 ≤ 3652059 :=
  (addM_civ h1 h2 hd).range (by omega) (by omega)
/-- Months one behind the other, and back. -/
theorem steps_j1 (n a b : Int) (h1 : 1 ≤ n) (h2 : n ≤ 3652059) (ha : -32768 ≤ a ∧ a ≤ 32767) (hb : -32768 ≤ b ∧ b ≤ 32767) : Ev (fun k => passbooklaw03_CalSteps.j1 k n a b) true := by
  obtain ⟨y, m, d, hc, ya, yb⟩ := civ_ex n h1 h2
  have lb := len_bd y m
  have dl := hc.dl; have d1 := hc.d1; have m1 := hc.m1; have m12 := hc.m12; have he := hc.eq
  refine succ ?_
  simp only [passbooklaw03_CalSteps.j1, w64 (x := a) (by omega) (by omega), w64 (x := b) (by omega) (by omega), w64 (x := a + b) (by omega) (by omega)]
  refine Ev.bind (Civil_at hc h1 h2) ?_
  simp only [if_true]
  refine Ev.bind (addmonths_ev hc h1 h2 (by omega) (by omega)) ?_
  by_cases c : 12 ≤ 12 * y + m - 1 + a ∧ 12 * y + m - 1 + a < 120000
  · have r := addM_range c.1 c.2 d1
    have hx := addM_civ c.1 c.2 d1
    have l1 := len_bd ((12 * y + m - 1 + a) / 12) ((12 * y + m - 1 + a) % 12 + 1)
    refine Ev.bind (addmonths_ev hx r.1 r.2 (by omega) (by omega)) (Ev.bind (addmonths_ev hc h1 h2 (by omega) (by omega)) ?_)
    rw [show 12 * ((12 * y + m - 1 + a) / 12) + ((12 * y + m - 1 + a) % 12 + 1) - 1 + b = 12 * y + m - 1 + (a + b) by omega]
    simp only [addM_val c.1 c.2, if_true]
    refine succ ?_
    by_cases c2 : 12 ≤ 12 * y + m - 1 + (a + b) ∧ 12 * y + m - 1 + (a + b) < 120000
    · have rz := addM_range c2.1 c2.2 d1
      have hz := addM_civ c2.1 c2.2 d1
      have l2 := len_bd ((12 * y + m - 1 + (a + b)) / 12) ((12 * y + m - 1 + (a + b)) % 12 + 1)
      simp only [addM_val c2.1 c2.2, bne_self_eq_false, passbooklaw03_CalSteps.j2, if_neg (show ¬ (false = true) by simp), if_true, w64 (x := a) (by omega) (by omega), w64 (x := b) (by omega) (by omega), w64 (x := -a) (by omega) (by omega), w64 (x := -a - b) (by omega) (by omega)]
      rw [addM_val c2.1 c2.2] at hz rz
      refine Ev.bind (addmonths_ev hz rz.1 rz.2 (by omega) (by omega)) ?_
      rw [show 12 * ((12 * y + m - 1 + (a + b)) / 12) + ((12 * y + m - 1 + (a + b)) % 12 + 1) - 1 + (-a - b) = 12 * y + m - 1 by omega]
      rw [addM_val (M := 12 * y + m - 1) (by omega) (by omega), show (12 * y + m - 1) / 12 = y by omega, show (12 * y + m - 1) % 12 + 1 = m by omega]
      simp only [if_true]
      generalize len ((12 * y + m - 1 + (a + b)) / 12) ((12 * y + m - 1 + (a + b)) % 12 + 1) = L2 at *
      generalize len ((12 * y + m - 1 + a) / 12) ((12 * y + m - 1 + a) % 12 + 1) = L1 at *
      by_cases e : d ≤ 28
      · simp only [if_pos e]
        rw [show min (min d L1) L2 = d by omega, show min d L2 = d by omega, show min d (len y m) = d by omega]
        simp only [if_true]
        exact konst (by simp; omega)
      · simp only [if_neg e]
        have f1 : ah y + cum y m + min (min d L2) (len y m) ≤ n := by omega
        have f2 : n - (ah y + cum y m + min (min d L2) (len y m)) ≤ 3 := by omega
        rw [if_pos (by omega)]
        simp only [if_pos f1]
        rw [w64 (by omega) (by omega)]
        exact konst (by simp; omega)
    · have f : addM (12 * y + m - 1 + (a + b)) (min d (len ((12 * y + m - 1 + a) / 12) ((12 * y + m - 1 + a) % 12 + 1))) = (0, 4) := by
        unfold addM; rw [if_pos (by omega)]
      simp only [f, passbooklaw03_CalSteps.j2]
      exact konst (by simp)
  · have f : addM (12 * y + m - 1 + a) d = (0, 4) := by
      unfold addM; rw [if_pos (by omega)]
    rw [f]
    refine Ev.bind (addmonths_out (by omega)) (Ev.bind (addmonths_ev hc h1 h2 (by omega) (by omega)) ?_)
    simp only [if_neg (show ¬ (4 : Int) = 0 by omega)]
    refine succ ?_
    simp only [passbooklaw03_CalSteps.j2, if_true]
    exact konst rfl
theorem CalSteps : passbooklaw03_CalSteps.Pure := by
  intro n a b wn wa wb
  have w := wf64 wn
  have wa := wf16 wa
  have wb := wf16 wb
  refine found ?_
  unfold passbooklaw03_CalSteps.f
  refine Ev.bind awake03 ?_
  simp only [if_true]
  by_cases c : n < 1
  · simp only [if_pos c]
    refine succ ?_
    simp only [passbooklaw03_CalSteps.j0, if_true, wu64, tm (show 0 ≤ n % 18446744073709551616 by omega)]
    rw [w64 (x := n % 18446744073709551616 % 3652059) (by omega) (by omega), w64 (by omega) (by omega)]
    exact steps_j1 _ _ _ (by omega) (by omega) wa wb
  · simp only [if_neg c]
    refine succ ?_
    by_cases e : n > 3652059
    · simp only [passbooklaw03_CalSteps.j0, e, decide_true, if_true, wu64, tm (show 0 ≤ n % 18446744073709551616 by omega)]
      rw [w64 (x := n % 18446744073709551616 % 3652059) (by omega) (by omega), w64 (by omega) (by omega)]
      exact steps_j1 _ _ _ (by omega) (by omega) wa wb
    · simp only [passbooklaw03_CalSteps.j0, e, decide_false, if_neg (show ¬ (false = true) by simp)]
      exact steps_j1 _ _ _ (by omega) (by omega) wa wb
end Go.Proofs.Ytemijfjchoimpaa.Pure

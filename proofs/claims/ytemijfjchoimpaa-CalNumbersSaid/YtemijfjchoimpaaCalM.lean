/- The calendar in plain numbers: leap years, months, days ahead of a year, the one date of a day. Conditions: none. -/
import Derived.RowKit
namespace Go.Proofs.Ytemijfjchoimpaa.CalM

def lp (y : Int) : Int := if y % 400 = 0 then 1 else if y % 100 = 0 then 0 else if y % 4 = 0 then 1 else 0
def ah (y : Int) : Int := 365 * (y - 1) + (y - 1) / 4 - (y - 1) / 100 + (y - 1) / 400
def len (y m : Int) : Int := if m = 2 then 28 + lp y else if m = 4 ∨ m = 6 ∨ m = 9 ∨ m = 11 then 30 else 31
def cum (y m : Int) : Int := (367 * m - 362) / 12 - (if 3 ≤ m then 2 - lp y else 0)

theorem lp01 (y : Int) : 0 ≤ lp y ∧ lp y ≤ 1 := by unfold lp; split <;> (try split) <;> (try split) <;> omega
theorem ah_succ (y : Int) : ah (y + 1) = ah y + 365 + lp y := by
  unfold ah lp
  split <;> (try split) <;> (try split) <;> omega
theorem len_bd (y m : Int) : 28 ≤ len y m ∧ len y m ≤ 31 := by
  have := lp01 y
  unfold len; split <;> (try split) <;> omega
theorem cum_succ (y m : Int) (h1 : 1 ≤ m) (h2 : m ≤ 12) : cum y (m + 1) = cum y m + len y m := by
  obtain rfl | rfl | rfl | rfl | rfl | rfl | rfl | rfl | rfl | rfl | rfl | rfl : m = 1 ∨ m = 2 ∨ m = 3 ∨ m = 4 ∨ m = 5 ∨ m = 6 ∨ m = 7 ∨ m = 8 ∨ m = 9 ∨ m = 10 ∨ m = 11 ∨ m = 12 := by omega
  all_goals (simp [cum, len]; try omega)
theorem cum1 (y : Int) : cum y 1 = 0 := by simp [cum]
theorem cum13 (y : Int) : cum y 13 = 365 + lp y := by simp [cum]; omega
theorem ah_mono {a b : Int} (h : a ≤ b) : ah a + 365 * (b - a) ≤ ah b := by
  unfold ah; omega
theorem ah_lt {a b : Int} (h : a < b) : ah a + 365 + lp a ≤ ah b := by
  have := ah_succ a
  have := ah_mono (show a + 1 ≤ b by omega)
  omega
theorem cum_mono (y a b : Int) (h : a ≤ b) : cum y a ≤ cum y b := by
  have := lp01 y
  unfold cum; split <;> split <;> omega
theorem cum_nn (y m : Int) (h : 1 ≤ m) : 0 ≤ cum y m := by
  have := lp01 y
  unfold cum; split <;> omega
/-- The date y, m, d is day n. -/
structure Civ (n y m d : Int) : Prop where
  m1 : 1 ≤ m
  m12 : m ≤ 12
  d1 : 1 ≤ d
  dl : d ≤ len y m
  eq : n = ah y + cum y m + d
theorem Civ.year {n y m d : Int} (h : Civ n y m d) : ah y < n ∧ n ≤ ah (y + 1) := by
  have a := cum_succ y m h.m1 h.m12
  have b := cum_mono y (m + 1) 13 (by have := h.m12; omega)
  have c := cum13 y
  have d := ah_succ y
  have e := cum_nn y m h.m1
  have := h.d1; have := h.dl; have := h.eq
  omega
theorem Civ.uniq {n y m d y' m' d' : Int} (h : Civ n y m d) (h' : Civ n y' m' d') : y = y' ∧ m = m' ∧ d = d' := by
  have hy : y = y' := by
    have a := h.year
    have b := h'.year
    rcases Int.lt_trichotomy y y' with c | c | c
    · have := ah_mono (show y + 1 ≤ y' by omega); omega
    · exact c
    · have := ah_mono (show y' + 1 ≤ y by omega); omega
  subst hy
  have hm : m = m' := by
    have a := cum_succ y m h.m1 h.m12
    have b := cum_succ y m' h'.m1 h'.m12
    have := h.d1; have := h.dl; have := h.eq; have := h'.d1; have := h'.dl; have := h'.eq
    rcases Int.lt_trichotomy m m' with c | c | c
    · have := cum_mono y (m + 1) m' (by omega); omega
    · exact c
    · have := cum_mono y (m' + 1) m (by omega); omega
  subst hm
  have := h.eq; have := h'.eq
  exact ⟨rfl, rfl, by omega⟩
theorem Civ.bounds {n y m d : Int} (h : Civ n y m d) (h1 : 1 ≤ n) (h2 : n ≤ 3652059) : 1 ≤ y ∧ y ≤ 9999 := by
  have a := h.year
  constructor
  · by_cases c : 1 ≤ y
    · exact c
    · have := ah_mono (show y + 1 ≤ 1 by omega); have : ah 1 = 0 := by decide
      omega
  · by_cases c : y ≤ 9999
    · exact c
    · have := ah_mono (show 10000 ≤ y by omega); have : ah 10000 = 3652059 := by decide
      omega
theorem Civ.range {n y m d : Int} (h : Civ n y m d) (h1 : 1 ≤ y) (h2 : y ≤ 9999) : 1 ≤ n ∧ n ≤ 3652059 := by
  have a := h.year
  have := ah_mono (show 1 ≤ y by omega); have : ah 1 = 0 := by decide
  have := ah_mono (show y + 1 ≤ 10000 by omega); have : ah 10000 = 3652059 := by decide
  omega
theorem ah_bd {y : Int} (h1 : 1 ≤ y) (h2 : y ≤ 10000) : 0 ≤ ah y ∧ ah y ≤ 3652059 := by
  have := ah_mono (show 1 ≤ y by omega); have : ah 1 = 0 := by decide
  have := ah_mono (show y ≤ 10000 by omega); have : ah 10000 = 3652059 := by decide
  omega
theorem cum_bd (y m : Int) (h1 : 1 ≤ m) (h2 : m ≤ 13) : 0 ≤ cum y m ∧ cum y m ≤ 366 := by
  have := lp01 y
  unfold cum; split <;> omega
end Go.Proofs.Ytemijfjchoimpaa.CalM

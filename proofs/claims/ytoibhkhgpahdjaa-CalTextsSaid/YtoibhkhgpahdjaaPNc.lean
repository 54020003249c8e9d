/- Texts of days: the law CalTexts. Conditions: none here. -/
import Derived.Test.YtoibhkhgpahdjaaPNb
set_option linter.unusedVariables false
set_option linter.unusedSimpArgs false
namespace Go.Proofs.Ytoibhkhgpahdjaa.Wide
open Go Go.RowKit Go.Proofs.Ytoibhkhgpahdjaa.Vm Go.Proofs.Ytoibhkhgpahdjaa.CalM
/-- A date's text, as bytes. -/
def txt (y m d : Int) : List Int := [48 + y / 1000, 48 + y / 100 % 10, 48 + y / 10 % 10, 48 + y % 10, 45, 48 + m / 10, 48 + m % 10, 45, 48 + d / 10, 48 + d % 10]
theorem txt_bd {y m d : Int} (y0 : 0 ≤ y) (y1 : y ≤ 9999) (m0 : 0 ≤ m) (m1 : m ≤ 99) (d0 : 0 ≤ d) (d1 : d ≤ 99) : ∀ x ∈ txt y m d, 0 ≤ x ∧ x < 256 := by
  intro x hx
  simp only [txt, List.mem_cons, List.not_mem_nil, or_false] at hx
  rcases hx with h | h | h | h | h | h | h | h | h | h <;> omega
theorem dash : (⟨#[45]⟩ : ByteArray) = strOf [45] := rfl
theorem write_ok {K : Nat} (hK : 20000 ≤ K) {n y m d : Int} (hc : Civ n y m d) (h1 : 1 ≤ n) (h2 : n ≤ 3652059) : F.cal_Write K n = some (strOf (txt y m d), 0) := by
  obtain ⟨y', m', d', hc', p1, p2, he⟩ := civ_ok hK h1 h2
  obtain ⟨rfl, rfl, rfl⟩ := hc.uniq hc'
  have := hc.m1; have := hc.m12; have := hc.d1; have := hc.dl; have := len_bd y m
  unfold F.cal_Write
  rw [cis_ok, Option.bind_some, bi_eq, if_neg (by simp; omega), he, Option.bind_some]
  simp only
  rw [padded4 (by omega) (by omega) p2, Option.bind_some, bi_eq, if_neg (by simp [strOf_size]), padded2 (by omega) (by omega) (by omega), Option.bind_some, dash, strOf_app, bi_eq, if_neg (by simp [strOf_size]), strOf_app, bi_eq, if_neg (by simp [strOf_size]), padded2 (by omega) (by omega) (by omega), Option.bind_some, strOf_app, bi_eq, if_neg (by simp [strOf_size]), strOf_app]
  rfl
theorem write_bad {K : Nat} {n : Int} (h : ¬ (1 ≤ n ∧ n ≤ 3652059)) : F.cal_Write K n = some (⟨#[]⟩, 1) := by
  unfold F.cal_Write
  rw [cis_ok, Option.bind_some, bi_eq, if_pos (by simp; omega)]
/-- A text of the form of a date. -/
def Form (s : ByteArray) : Prop := dg (bt s 0) ∧ dg (bt s 1) ∧ dg (bt s 2) ∧ dg (bt s 3) ∧ bt s 4 = 45 ∧ dg (bt s 5) ∧ dg (bt s 6) ∧ bt s 7 = 45 ∧ dg (bt s 8) ∧ dg (bt s 9)
def Yr (s : ByteArray) : Int := 1000 * (bt s 0 - 48) + 100 * (bt s 1 - 48) + 10 * (bt s 2 - 48) + (bt s 3 - 48)
def Mo (s : ByteArray) : Int := 10 * (bt s 5 - 48) + (bt s 6 - 48)
def Da (s : ByteArray) : Int := 10 * (bt s 8 - 48) + (bt s 9 - 48)
theorem parse_form {K : Nat} (hK : 1000 ≤ K) {s : ByteArray} (hs : s.size = 10) (hf : Form s) : F.cal_Parse K s = (F.cal_Number K (Yr s) (Mo s) (Da s)).bind fun r => bi (r.2 != 0) (some (0, 9)) (some (r.1, 0)) := by
  obtain ⟨f0, f1, f2, f3, f4, f5, f6, f7, f8, f9⟩ := hf
  have g0 := f0.bd; have g1 := f1.bd; have g2 := f2.bd; have g3 := f3.bd; have g5 := f5.bd; have g6 := f6.bd; have g8 := f8.bd; have g9 := f9.bd
  have e0 : (s.extract 0 4).size = 4 := by simp [ByteArray.size_extract]; omega
  have e1 : (s.extract 5 7).size = 2 := by simp [ByteArray.size_extract]; omega
  have e2 : (s.extract 8 10).size = 2 := by simp [ByteArray.size_extract]; omega
  have x0 : bt (s.extract 0 4) 0 = bt s 0 := bt_ext (s := s) (a := 0) (b := 4) (i := 0) (by omega) (by omega)
  have x1 : bt (s.extract 0 4) 1 = bt s 1 := bt_ext (s := s) (a := 0) (b := 4) (i := 1) (by omega) (by omega)
  have x2 : bt (s.extract 0 4) 2 = bt s 2 := bt_ext (s := s) (a := 0) (b := 4) (i := 2) (by omega) (by omega)
  have x3 : bt (s.extract 0 4) 3 = bt s 3 := bt_ext (s := s) (a := 0) (b := 4) (i := 3) (by omega) (by omega)
  have x5 : bt (s.extract 5 7) 0 = bt s 5 := bt_ext (s := s) (a := 5) (b := 7) (i := 0) (by omega) (by omega)
  have x6 : bt (s.extract 5 7) 1 = bt s 6 := bt_ext (s := s) (a := 5) (b := 7) (i := 1) (by omega) (by omega)
  have x8 : bt (s.extract 8 10) 0 = bt s 8 := bt_ext (s := s) (a := 8) (b := 10) (i := 0) (by omega) (by omega)
  have x9 : bt (s.extract 8 10) 1 = bt s 9 := bt_ext (s := s) (a := 8) (b := 10) (i := 1) (by omega) (by omega)
  have hsz : (s.size : Int) = 10 := by omega
  unfold F.cal_Parse
  simp only [bi_eq]
  rw [hsz]
  simp only [show ((10 : Int) != 10) = false from rfl, show (Bool.true && decide ((4 : Int) < 10)) = true from rfl, show (Bool.true && decide ((7 : Int) < 10)) = true from rfl, show (Bool.true && decide ((4 : Int) ≤ 10)) = true from rfl, show (Bool.true && decide ((7 : Int) ≤ 10)) = true from rfl, show (Bool.true && decide ((8 : Int) ≤ 10) && decide ((10 : Int) ≤ 10)) = true from rfl, show (10 : Int).toNat = 10 from rfl, f4, f7, show ((45 : Int) != 45) = false from rfl, if_true, Bool.false_eq_true, if_false]
  rw [fig4 (by omega) e0, Option.bind_some, fig2 (by omega) e1, Option.bind_some, fig2 (by omega) e2, Option.bind_some, x0, x1, x2, x3, x5, x6, x8, x9, if_pos (⟨f0, f1, f2, f3⟩ : dg (bt s 0) ∧ dg (bt s 1) ∧ dg (bt s 2) ∧ dg (bt s 3)), if_pos (⟨f5, f6⟩ : dg (bt s 5) ∧ dg (bt s 6)), if_pos (⟨f8, f9⟩ : dg (bt s 8) ∧ dg (bt s 9)), if_neg (by simp; omega), if_neg (by simp; omega), if_neg (by simp; omega)]
  rfl
theorem parse_no {K : Nat} (hK : 1000 ≤ K) {s : ByteArray} (h : ¬ (s.size = 10 ∧ Form s)) : F.cal_Parse K s = some (0, 6) := by
  unfold F.cal_Parse
  simp only [bi_eq]
  by_cases hs : s.size = 10
  case neg => rw [if_pos (by simp; omega)]
  have hf : ¬ Form s := fun hf => h ⟨hs, hf⟩
  have e0 : (s.extract 0 4).size = 4 := by simp [ByteArray.size_extract]; omega
  have e1 : (s.extract 5 7).size = 2 := by simp [ByteArray.size_extract]; omega
  have e2 : (s.extract 8 10).size = 2 := by simp [ByteArray.size_extract]; omega
  have x0 : bt (s.extract 0 4) 0 = bt s 0 := bt_ext (s := s) (a := 0) (b := 4) (i := 0) (by omega) (by omega)
  have x1 : bt (s.extract 0 4) 1 = bt s 1 := bt_ext (s := s) (a := 0) (b := 4) (i := 1) (by omega) (by omega)
  have x2 : bt (s.extract 0 4) 2 = bt s 2 := bt_ext (s := s) (a := 0) (b := 4) (i := 2) (by omega) (by omega)
  have x3 : bt (s.extract 0 4) 3 = bt s 3 := bt_ext (s := s) (a := 0) (b := 4) (i := 3) (by omega) (by omega)
  have x5 : bt (s.extract 5 7) 0 = bt s 5 := bt_ext (s := s) (a := 5) (b := 7) (i := 0) (by omega) (by omega)
  have x6 : bt (s.extract 5 7) 1 = bt s 6 := bt_ext (s := s) (a := 5) (b := 7) (i := 1) (by omega) (by omega)
  have x8 : bt (s.extract 8 10) 0 = bt s 8 := bt_ext (s := s) (a := 8) (b := 10) (i := 0) (by omega) (by omega)
  have x9 : bt (s.extract 8 10) 1 = bt s 9 := bt_ext (s := s) (a := 8) (b := 10) (i := 1) (by omega) (by omega)
  have hsz : (s.size : Int) = 10 := by omega
  rw [hsz]
  simp only [show ((10 : Int) != 10) = false from rfl, show (Bool.true && decide ((4 : Int) < 10)) = true from rfl, show (Bool.true && decide ((7 : Int) < 10)) = true from rfl, show (Bool.true && decide ((4 : Int) ≤ 10)) = true from rfl, show (Bool.true && decide ((7 : Int) ≤ 10)) = true from rfl, show (Bool.true && decide ((8 : Int) ≤ 10) && decide ((10 : Int) ≤ 10)) = true from rfl, show (10 : Int).toNat = 10 from rfl, if_true, Bool.false_eq_true, if_false]
  by_cases f4 : bt s 4 = 45
  case neg => rw [if_pos (by simpa using f4)]
  rw [if_neg (by simpa using f4)]
  by_cases f7 : bt s 7 = 45
  case neg => rw [if_pos (by simpa using f7)]
  rw [if_neg (by simpa using f7), fig4 (by omega) e0, Option.bind_some, fig2 (by omega) e1, Option.bind_some, fig2 (by omega) e2, Option.bind_some, x0, x1, x2, x3, x5, x6, x8, x9]
  by_cases fy : dg (bt s 0) ∧ dg (bt s 1) ∧ dg (bt s 2) ∧ dg (bt s 3)
  case neg => rw [if_neg fy, if_pos (by decide)]
  have g0 := fy.1.bd; have g1 := fy.2.1.bd; have g2 := fy.2.2.1.bd; have g3 := fy.2.2.2.bd
  rw [if_pos fy, if_neg (by simp; omega)]
  by_cases fm : dg (bt s 5) ∧ dg (bt s 6)
  case neg => rw [if_neg fm, if_pos (by decide)]
  have g5 := fm.1.bd; have g6 := fm.2.bd
  rw [if_pos fm, if_neg (by simp; omega)]
  by_cases fd : dg (bt s 8) ∧ dg (bt s 9)
  case neg => rw [if_neg fd, if_pos (by decide)]
  exact absurd ⟨fy.1, fy.2.1, fy.2.2.1, fy.2.2.2, f4, fm.1, fm.2, f7, fd.1, fd.2⟩ hf
end Go.Proofs.Ytoibhkhgpahdjaa.Wide

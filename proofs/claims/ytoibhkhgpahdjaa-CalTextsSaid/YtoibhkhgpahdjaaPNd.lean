/- Texts of days: the reference's texts; the law CalTexts. Conditions: none here. -/
import Derived.Test.YtoibhkhgpahdjaaPNc
set_option linter.unusedVariables false
set_option linter.unusedSimpArgs false
namespace Go.Proofs.Ytoibhkhgpahdjaa.Wide
open Go Go.RowKit Go.Proofs.Ytoibhkhgpahdjaa.Vm Go.Proofs.Ytoibhkhgpahdjaa.CalM
theorem dp_dig {K k : Nat} {s : ByteArray} {j i : Int} {l : List Int} (hs : s.size = 10) (i0 : 0 ≤ i) (i1 : i < 10) (i4 : i ≠ 4) (i7 : i ≠ 7) (j0 : 0 ≤ j) (j1 : j < 3) (hl : l.length = 3) (v0 : 0 ≤ nth 0 l j.toNat) (v1 : nth 0 l j.toNat < 100000) :
    F.ref03_DocParse_l6 K (k + 1) s j i l = if dg (bt s i) then F.ref03_DocParse_l6 K k s j (i + 1) (l.set j.toNat (10 * nth 0 l j.toNat + (bt s i - 48))) else some (.inr (0, 6)) := by
  have b := bt_bd s i
  have hin : (decide (0 ≤ i) && decide (i < (s.size : Int))) = true := by simp; omega
  have hjn : (decide (0 ≤ j) && decide (j < 3) && decide (j.toNat < l.length)) = true := by simp; omega
  rw [F.ref03_DocParse_l6]
  simp only [bi_eq]
  rw [if_pos (by simpa using i1), if_neg (by simpa using i4), if_neg (by simpa using i7), hin, if_pos rfl, if_pos rfl]
  by_cases h1 : bt s i < 48
  · rw [if_pos (by simpa using h1), if_neg (fun h => by have := h.bd; omega)]
  · rw [if_neg (by simpa using h1)]
    by_cases h2 : bt s i > 57
    · rw [if_pos (by simpa using h2), if_neg (fun h => by have := h.bd; omega)]
    · rw [if_neg (by simpa using h2), hjn, if_pos rfl, if_pos rfl, if_pos rfl, if_pos (dg.mk (by omega) (by omega)), wu8, show (bt s i - 48) % 256 = bt s i - 48 by omega, iw (x := 10 * _) (by omega) (by omega), iw (x := bt s i - 48) (by omega) (by omega), iw (x := 10 * _ + _) (by omega) (by omega), iw (x := i + 1) (by omega) (by omega)]
theorem dp_dash {K k : Nat} {s : ByteArray} {j i : Int} {l : List Int} (hs : s.size = 10) (hi : i = 4 ∨ i = 7) (j0 : 0 ≤ j) (j1 : j < 3) :
    F.ref03_DocParse_l6 K (k + 1) s j i l = if bt s i = 45 then F.ref03_DocParse_l6 K k s (j + 1) (i + 1) l else some (.inr (0, 6)) := by
  have hin : (decide (0 ≤ i) && decide (i < (s.size : Int))) = true := by simp; omega
  rw [F.ref03_DocParse_l6]
  simp only [bi_eq]
  rw [if_pos (by simp; omega), hin, if_pos rfl, if_pos rfl, iw (x := j + 1) (by omega) (by omega), iw (x := i + 1) (by omega) (by omega)]
  rcases hi with rfl | rfl
  · rw [if_pos (by decide)]
    by_cases h : bt s 4 = 45
    · rw [if_neg (by simpa using h), if_pos h]
    · rw [if_pos (by simpa using h), if_neg h]
  · rw [if_neg (by decide), if_pos (by decide)]
    by_cases h : bt s 7 = 45
    · rw [if_neg (by simpa using h), if_pos h]
    · rw [if_pos (by simpa using h), if_neg h]
theorem dp_end {K k : Nat} {s : ByteArray} {j : Int} {l : List Int} : F.ref03_DocParse_l6 K (k + 1) s j 10 l = some (.inl l) := by
  rw [F.ref03_DocParse_l6, bi_eq, if_neg (by decide)]
open Classical in
theorem dp_loop {K k : Nat} {s : ByteArray} (hs : s.size = 10) : F.ref03_DocParse_l6 K (k + 11) s 0 0 [0, 0, 0] = if Form s then some (.inl [Yr s, Mo s, Da s]) else some (.inr (0, 6)) := by
  have no : ∀ {α : Type} {x y : α}, ¬ Form s → x = y → x = if Form s then x else y := fun h e => by rw [if_neg h, e]
  by_cases hf : Form s
  · obtain ⟨f0, f1, f2, f3, f4, f5, f6, f7, f8, f9⟩ := hf
    rw [if_pos ⟨f0, f1, f2, f3, f4, f5, f6, f7, f8, f9⟩]
    have g0 := f0.bd; have g1 := f1.bd; have g2 := f2.bd; have g3 := f3.bd; have g5 := f5.bd; have g6 := f6.bd; have g8 := f8.bd; have g9 := f9.bd
    rw [dp_dig (k := k + 10) hs (by decide) (by decide) (by decide) (by decide) (by decide) (by decide) rfl (by decide) (by decide +kernel), if_pos f0]
    simp only [show (0 : Int).toNat = 0 from rfl, List.set_cons_zero, nth, show (0 : Int) + 1 = 1 from rfl]
    rw [dp_dig (k := k + 9) hs (by decide) (by decide) (by decide) (by decide) (by decide) (by decide) rfl (by simp only [show (0 : Int).toNat = 0 from rfl, nth]; omega) (by simp only [show (0 : Int).toNat = 0 from rfl, nth]; omega), if_pos f1]
    simp only [show (0 : Int).toNat = 0 from rfl, List.set_cons_zero, nth, show (1 : Int) + 1 = 2 from rfl]
    rw [dp_dig (k := k + 8) hs (by decide) (by decide) (by decide) (by decide) (by decide) (by decide) rfl (by simp only [show (0 : Int).toNat = 0 from rfl, nth]; omega) (by simp only [show (0 : Int).toNat = 0 from rfl, nth]; omega), if_pos f2]
    simp only [show (0 : Int).toNat = 0 from rfl, List.set_cons_zero, nth, show (2 : Int) + 1 = 3 from rfl]
    rw [dp_dig (k := k + 7) hs (by decide) (by decide) (by decide) (by decide) (by decide) (by decide) rfl (by simp only [show (0 : Int).toNat = 0 from rfl, nth]; omega) (by simp only [show (0 : Int).toNat = 0 from rfl, nth]; omega), if_pos f3]
    simp only [show (0 : Int).toNat = 0 from rfl, List.set_cons_zero, nth, show (3 : Int) + 1 = 4 from rfl]
    rw [dp_dash (k := k + 6) hs (.inl rfl) (by decide) (by decide), if_pos f4]
    simp only [show (0 : Int) + 1 = 1 from rfl, show (4 : Int) + 1 = 5 from rfl]
    rw [dp_dig (k := k + 5) hs (by decide) (by decide) (by decide) (by decide) (by decide) (by decide) rfl (by simp only [show (1 : Int).toNat = 1 from rfl, nth]; omega) (by simp only [show (1 : Int).toNat = 1 from rfl, nth]; omega), if_pos f5]
    simp only [show (1 : Int).toNat = 1 from rfl, List.set_cons_zero, List.set_cons_succ, nth, show (5 : Int) + 1 = 6 from rfl]
    rw [dp_dig (k := k + 4) hs (by decide) (by decide) (by decide) (by decide) (by decide) (by decide) rfl (by simp only [show (1 : Int).toNat = 1 from rfl, nth]; omega) (by simp only [show (1 : Int).toNat = 1 from rfl, nth]; omega), if_pos f6]
    simp only [show (1 : Int).toNat = 1 from rfl, List.set_cons_zero, List.set_cons_succ, nth, show (6 : Int) + 1 = 7 from rfl]
    rw [dp_dash (k := k + 3) hs (.inr rfl) (by decide) (by decide), if_pos f7]
    simp only [show (1 : Int) + 1 = 2 from rfl, show (7 : Int) + 1 = 8 from rfl]
    rw [dp_dig (k := k + 2) hs (by decide) (by decide) (by decide) (by decide) (by decide) (by decide) rfl (by simp only [show (2 : Int).toNat = 2 from rfl, nth]; omega) (by simp only [show (2 : Int).toNat = 2 from rfl, nth]; omega), if_pos f8]
    simp only [show (2 : Int).toNat = 2 from rfl, List.set_cons_zero, List.set_cons_succ, nth, show (8 : Int) + 1 = 9 from rfl]
    rw [dp_dig (k := k + 1) hs (by decide) (by decide) (by decide) (by decide) (by decide) (by decide) rfl (by simp only [show (2 : Int).toNat = 2 from rfl, nth]; omega) (by simp only [show (2 : Int).toNat = 2 from rfl, nth]; omega), if_pos f9]
    simp only [show (2 : Int).toNat = 2 from rfl, List.set_cons_zero, List.set_cons_succ, nth, show (9 : Int) + 1 = 10 from rfl]
    rw [dp_end]
    have e1 : 10 * (10 * (10 * (10 * 0 + (bt s 0 - 48)) + (bt s 1 - 48)) + (bt s 2 - 48)) + (bt s 3 - 48) = Yr s := by unfold Yr; omega
    have e2 : 10 * (10 * 0 + (bt s 5 - 48)) + (bt s 6 - 48) = Mo s := by unfold Mo; omega
    have e3 : 10 * (10 * 0 + (bt s 8 - 48)) + (bt s 9 - 48) = Da s := by unfold Da; omega
    rw [e1, e2, e3]
  · rw [if_neg hf]
    rw [dp_dig (k := k + 10) hs (by decide) (by decide) (by decide) (by decide) (by decide) (by decide) rfl (by decide) (by decide +kernel)]
    by_cases f0 : dg (bt s 0)
    case neg => rw [if_neg f0]
    have g0 := f0.bd
    rw [if_pos f0]
    simp only [show (0 : Int).toNat = 0 from rfl, List.set_cons_zero, nth, show (0 : Int) + 1 = 1 from rfl]
    rw [dp_dig (k := k + 9) hs (by decide) (by decide) (by decide) (by decide) (by decide) (by decide) rfl (by simp only [show (0 : Int).toNat = 0 from rfl, nth]; omega) (by simp only [show (0 : Int).toNat = 0 from rfl, nth]; omega)]
    by_cases f1 : dg (bt s 1)
    case neg => rw [if_neg f1]
    have g1 := f1.bd
    rw [if_pos f1]
    simp only [show (0 : Int).toNat = 0 from rfl, List.set_cons_zero, nth, show (1 : Int) + 1 = 2 from rfl]
    rw [dp_dig (k := k + 8) hs (by decide) (by decide) (by decide) (by decide) (by decide) (by decide) rfl (by simp only [show (0 : Int).toNat = 0 from rfl, nth]; omega) (by simp only [show (0 : Int).toNat = 0 from rfl, nth]; omega)]
    by_cases f2 : dg (bt s 2)
    case neg => rw [if_neg f2]
    have g2 := f2.bd
    rw [if_pos f2]
    simp only [show (0 : Int).toNat = 0 from rfl, List.set_cons_zero, nth, show (2 : Int) + 1 = 3 from rfl]
    rw [dp_dig (k := k + 7) hs (by decide) (by decide) (by decide) (by decide) (by decide) (by decide) rfl (by simp only [show (0 : Int).toNat = 0 from rfl, nth]; omega) (by simp only [show (0 : Int).toNat = 0 from rfl, nth]; omega)]
    by_cases f3 : dg (bt s 3)
    case neg => rw [if_neg f3]
    have g3 := f3.bd
    rw [if_pos f3]
    simp only [show (0 : Int).toNat = 0 from rfl, List.set_cons_zero, nth, show (3 : Int) + 1 = 4 from rfl]
    rw [dp_dash (k := k + 6) hs (.inl rfl) (by decide) (by decide)]
    by_cases f4 : bt s 4 = 45
    case neg => rw [if_neg f4]
    rw [if_pos f4]
    simp only [show (0 : Int) + 1 = 1 from rfl, show (4 : Int) + 1 = 5 from rfl]
    rw [dp_dig (k := k + 5) hs (by decide) (by decide) (by decide) (by decide) (by decide) (by decide) rfl (by simp only [show (1 : Int).toNat = 1 from rfl, nth]; omega) (by simp only [show (1 : Int).toNat = 1 from rfl, nth]; omega)]
    by_cases f5 : dg (bt s 5)
    case neg => rw [if_neg f5]
    have g5 := f5.bd
    rw [if_pos f5]
    simp only [show (1 : Int).toNat = 1 from rfl, List.set_cons_zero, List.set_cons_succ, nth, show (5 : Int) + 1 = 6 from rfl]
    rw [dp_dig (k := k + 4) hs (by decide) (by decide) (by decide) (by decide) (by decide) (by decide) rfl (by simp only [show (1 : Int).toNat = 1 from rfl, nth]; omega) (by simp only [show (1 : Int).toNat = 1 from rfl, nth]; omega)]
    by_cases f6 : dg (bt s 6)
    case neg => rw [if_neg f6]
    have g6 := f6.bd
    rw [if_pos f6]
    simp only [show (1 : Int).toNat = 1 from rfl, List.set_cons_zero, List.set_cons_succ, nth, show (6 : Int) + 1 = 7 from rfl]
    rw [dp_dash (k := k + 3) hs (.inr rfl) (by decide) (by decide)]
    by_cases f7 : bt s 7 = 45
    case neg => rw [if_neg f7]
    rw [if_pos f7]
    simp only [show (1 : Int) + 1 = 2 from rfl, show (7 : Int) + 1 = 8 from rfl]
    rw [dp_dig (k := k + 2) hs (by decide) (by decide) (by decide) (by decide) (by decide) (by decide) rfl (by simp only [show (2 : Int).toNat = 2 from rfl, nth]; omega) (by simp only [show (2 : Int).toNat = 2 from rfl, nth]; omega)]
    by_cases f8 : dg (bt s 8)
    case neg => rw [if_neg f8]
    have g8 := f8.bd
    rw [if_pos f8]
    simp only [show (2 : Int).toNat = 2 from rfl, List.set_cons_zero, List.set_cons_succ, nth, show (8 : Int) + 1 = 9 from rfl]
    rw [dp_dig (k := k + 1) hs (by decide) (by decide) (by decide) (by decide) (by decide) (by decide) rfl (by simp only [show (2 : Int).toNat = 2 from rfl, nth]; omega) (by simp only [show (2 : Int).toNat = 2 from rfl, nth]; omega)]
    by_cases f9 : dg (bt s 9)
    case neg => rw [if_neg f9]
    exact absurd ⟨f0, f1, f2, f3, f4, f5, f6, f7, f8, f9⟩ hf
theorem doc_form {K : Nat} (hK : 1000 ≤ K) {s : ByteArray} (hs : s.size = 10) (hf : Form s) : F.ref03_DocParse K s = (F.ref03_DocNumber K (Yr s) (Mo s) (Da s)).bind fun r => bi (r.2 != 0) (some (0, 9)) (some (r.1, 0)) := by
  obtain ⟨k, rfl⟩ : ∃ k, K = k + 11 := ⟨K - 11, by omega⟩
  unfold F.ref03_DocParse
  rw [bi_eq, if_neg (by simp; omega), dp_loop hs, if_pos hf]
  rfl
theorem doc_no {K : Nat} (hK : 1000 ≤ K) {s : ByteArray} (h : ¬ (s.size = 10 ∧ Form s)) : F.ref03_DocParse K s = some (0, 6) := by
  obtain ⟨k, rfl⟩ : ∃ k, K = k + 11 := ⟨K - 11, by omega⟩
  unfold F.ref03_DocParse
  rw [bi_eq]
  by_cases hs : s.size = 10
  · rw [if_neg (by simp; omega), dp_loop hs, if_neg fun hf => h ⟨hs, hf⟩]
    rfl
  · rw [if_pos (by simp; omega)]
/-- Parse and the reference's are one. -/
theorem parse_both {K : Nat} (hK : 1000 ≤ K) (s : ByteArray) : (s.size = 10 ∧ Form s ∧ Right (Yr s) (Mo s) (Da s) ∧ F.cal_Parse K s = some (ah (Yr s) + cum (Yr s) (Mo s) + Da s, 0) ∧ F.ref03_DocParse K s = some (ah (Yr s) + cum (Yr s) (Mo s) + Da s, 0)) ∨
    ∃ e, e ≠ 0 ∧ F.cal_Parse K s = some (0, e) ∧ F.ref03_DocParse K s = some (0, e) := by
  by_cases h : s.size = 10 ∧ Form s
  · by_cases hr : Right (Yr s) (Mo s) (Da s)
    · left
      refine ⟨h.1, h.2, hr, ?_, ?_⟩
      · rw [parse_form hK h.1 h.2, number_right (by omega) hr]; rfl
      · rw [doc_form hK h.1 h.2, doc_right hK hr]; rfl
    · right
      obtain ⟨v, e, he, h1⟩ := number_wrong (K := K) hr
      obtain ⟨v', e', he', h1'⟩ := doc_wrong (K := K) hr
      refine ⟨9, by decide, ?_, ?_⟩
      · rw [parse_form hK h.1 h.2, h1, Option.bind_some, bi_eq, if_pos (by simpa using he)]
      · rw [doc_form hK h.1 h.2, h1', Option.bind_some, bi_eq, if_pos (by simpa using he')]
  · exact .inr ⟨6, by decide, parse_no hK h, doc_no hK h⟩
theorem rw_step {K k : Nat} {n m d i : Int} {l : List Int} (n0 : 0 ≤ n) (n1 : n < 100000) (i0 : 0 ≤ i) (i1 : i < l.length) (i2 : i < 100) (hv : nth 0 l i.toNat = 48) : F.ref03_Write_l4 K (k + 1) n m d l i = F.ref03_Write_l4 K k (n / 10) m d (l.set i.toNat (48 + n % 10)) (i - 1) := by
  have hin : (decide (0 ≤ i) && decide (i < (l.length : Int))) = true := by simp; omega
  rw [F.ref03_Write_l4]
  simp only [bi_eq]
  rw [if_pos (by simpa using i0), hin, if_pos rfl, if_pos rfl, td _ n0, tm _ n0, hv, iw (x := n / 10) (by omega) (by omega), wu8, wu8, iw (x := i - 1) (by omega) (by omega)]
  congr 2
  omega
theorem rwrite_ok {K : Nat} (hK : 20000 ≤ K) {n y m d : Int} (hc : Civ n y m d) (h1 : 1 ≤ n) (h2 : n ≤ 3652059) : F.ref03_Write K n = some (strOf (txt y m d)) := by
  obtain ⟨p1, p2⟩ := hc.bounds h1 h2
  have := hc.m1; have := hc.m12; have := hc.d1; have := hc.dl; have := len_bd y m
  obtain ⟨k, hk⟩ : ∃ k, K = k + 5 := ⟨K - 5, by omega⟩
  have loop : F.ref03_Write_l4 K K y m d [48, 48, 48, 48, 45, 48, 48, 45, 48, 48] 3 = some (m, d, [48 + y / 1000, 48 + y / 100 % 10, 48 + y / 10 % 10, 48 + y % 10, 45, 48, 48, 45, 48, 48]) := by
    have e : F.ref03_Write_l4 K K y m d [48, 48, 48, 48, 45, 48, 48, 45, 48, 48] 3 = F.ref03_Write_l4 K (k + 5) y m d [48, 48, 48, 48, 45, 48, 48, 45, 48, 48] 3 := by rw [← hk]
    rw [e, rw_step (k := k + 4) (by omega) (by omega) (by decide) (by simp) (by decide) rfl]
    simp only [show (3 : Int).toNat = 3 from rfl, List.set_cons_zero, List.set_cons_succ, show (3 : Int) - 1 = 2 from rfl]
    rw [rw_step (k := k + 3) (by omega) (by omega) (by decide) (by simp) (by decide) rfl]
    simp only [show (2 : Int).toNat = 2 from rfl, List.set_cons_zero, List.set_cons_succ, show (2 : Int) - 1 = 1 from rfl]
    rw [rw_step (k := k + 2) (by omega) (by omega) (by decide) (by simp) (by decide) rfl]
    simp only [show (1 : Int).toNat = 1 from rfl, List.set_cons_zero, List.set_cons_succ, show (1 : Int) - 1 = 0 from rfl]
    rw [rw_step (k := k + 1) (by omega) (by omega) (by decide) (by simp) (by decide) rfl]
    simp only [show (0 : Int).toNat = 0 from rfl, List.set_cons_zero, List.set_cons_succ]
    rw [F.ref03_Write_l4, bi_eq, if_neg (by decide)]
    have a1 : y / 10 / 10 = y / 100 := by omega
    have a2 : y / 100 / 10 = y / 1000 := by omega
    have a3 : y / 1000 % 10 = y / 1000 := by omega
    rw [a1, a2, a3]
  have w1 : IntKind.i64.wrap (m.tdiv 10) = m / 10 := by rw [td _ (by omega), iw (by omega) (by omega)]
  have w2 : IntKind.i64.wrap (d.tdiv 10) = d / 10 := by rw [td _ (by omega), iw (by omega) (by omega)]
  have w3 : m.tmod 10 = m % 10 := tm _ (by omega)
  have w4 : d.tmod 10 = d % 10 := tm _ (by omega)
  have w5 : IntKind.u8.wrap (m / 10) = m / 10 := by rw [wu8]; omega
  have w6 : IntKind.u8.wrap (d / 10) = d / 10 := by rw [wu8]; omega
  have w7 : IntKind.u8.wrap (m % 10) = m % 10 := by rw [wu8]; omega
  have w8 : IntKind.u8.wrap (d % 10) = d % 10 := by rw [wu8]; omega
  have w9 : IntKind.u8.wrap (48 + m / 10) = 48 + m / 10 := by rw [wu8]; omega
  have wa : IntKind.u8.wrap (48 + d / 10) = 48 + d / 10 := by rw [wu8]; omega
  have wb : IntKind.u8.wrap (48 + m % 10) = 48 + m % 10 := by rw [wu8]; omega
  have wc : IntKind.u8.wrap (48 + d % 10) = 48 + d % 10 := by rw [wu8]; omega
  unfold F.ref03_Write
  rw [rciv_at hK hc h1 h2, Option.bind_some]
  simp only
  rw [loop, Option.bind_some]
  simp only [w1, w2, w3, w4, w5, w6, w7, w8, w9, wa, wb, wc, List.set_cons_zero, List.set_cons_succ, nth, List.length_cons, List.length_nil, bi_eq]
  rfl
theorem awake03 {K : Nat} (hK : 20000 ≤ K) : F.law03_awake K = some true := by
  unfold F.law03_awake
  have e1 : F.cal_Weekday K 719163 = some (3, 0) := by
    unfold F.cal_Weekday
    rw [cis_ok, Option.bind_some, bi_eq, if_neg (by decide)]
    decide +kernel
  rw [cnum_ok (by omega) (by decide) (by decide), Option.bind_some]
  simp only
  rw [show ah 1970 + 1 = 719163 by decide, e1, Option.bind_some, write_ok hK (n := 1) (y := 1) (m := 1) (d := 1) ⟨by decide, by decide, by decide, by decide, by decide⟩ (by decide) (by decide), Option.bind_some]
  decide +kernel
end Go.Proofs.Ytoibhkhgpahdjaa.Wide

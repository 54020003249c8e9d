/- The law CalTexts. Conditions: none here. -/
import Derived.Test.YtoibhkhgpahdjaaPNd
set_option linter.unusedVariables false
set_option linter.unusedSimpArgs false
namespace Go.Proofs.Ytoibhkhgpahdjaa.Wide
open Go Go.RowKit Go.Proofs.Ytoibhkhgpahdjaa.Vm Go.Proofs.Ytoibhkhgpahdjaa.CalM
theorem txt_bt {y m d : Int} (y0 : 1 ≤ y) (y1 : y ≤ 9999) (m0 : 1 ≤ m) (m1 : m ≤ 12) (d0 : 1 ≤ d) (d1 : d ≤ 31) :
    bt (strOf (txt y m d)) 0 = 48 + y / 1000 ∧ bt (strOf (txt y m d)) 1 = 48 + y / 100 % 10 ∧ bt (strOf (txt y m d)) 2 = 48 + y / 10 % 10 ∧ bt (strOf (txt y m d)) 3 = 48 + y % 10 ∧ bt (strOf (txt y m d)) 4 = 45 ∧
    bt (strOf (txt y m d)) 5 = 48 + m / 10 ∧ bt (strOf (txt y m d)) 6 = 48 + m % 10 ∧ bt (strOf (txt y m d)) 7 = 45 ∧ bt (strOf (txt y m d)) 8 = 48 + d / 10 ∧ bt (strOf (txt y m d)) 9 = 48 + d % 10 := by
  have hb := txt_bd (y := y) (m := m) (d := d) (by omega) y1 (by omega) (by omega) (by omega) (by omega)
  have hl : (txt y m d).length = 10 := rfl
  exact ⟨bt_strOf (i := 0) (by omega) hb, bt_strOf (i := 1) (by omega) hb, bt_strOf (i := 2) (by omega) hb, bt_strOf (i := 3) (by omega) hb, bt_strOf (i := 4) (by omega) hb,
    bt_strOf (i := 5) (by omega) hb, bt_strOf (i := 6) (by omega) hb, bt_strOf (i := 7) (by omega) hb, bt_strOf (i := 8) (by omega) hb, bt_strOf (i := 9) (by omega) hb⟩
theorem parse_back {K : Nat} (hK : 20000 ≤ K) {n y m d : Int} (hc : Civ n y m d) (h1 : 1 ≤ n) (h2 : n ≤ 3652059) : F.cal_Parse K (strOf (txt y m d)) = some (n, 0) := by
  obtain ⟨p1, p2⟩ := hc.bounds h1 h2
  have c1 := hc.m1; have c2 := hc.m12; have c3 := hc.d1; have c4 := hc.dl; have lb := len_bd y m
  obtain ⟨b0, b1, b2, b3, b4, b5, b6, b7, b8, b9⟩ := txt_bt (y := y) (m := m) (d := d) p1 p2 c1 c2 c3 (by omega)
  have hs : (strOf (txt y m d)).size = 10 := strOf_size _
  have hf : Form (strOf (txt y m d)) := by
    refine ⟨?_, ?_, ?_, ?_, b4, ?_, ?_, b7, ?_, ?_⟩ <;> first | rw [b0] | rw [b1] | rw [b2] | rw [b3] | rw [b5] | rw [b6] | rw [b8] | rw [b9]
    all_goals exact dg.mk (by omega) (by omega)
  have ey : Yr (strOf (txt y m d)) = y := by unfold Yr; rw [b0, b1, b2, b3]; omega
  have em : Mo (strOf (txt y m d)) = m := by unfold Mo; rw [b5, b6]; omega
  have ed : Da (strOf (txt y m d)) = d := by unfold Da; rw [b8, b9]; omega
  rw [parse_form (by omega) hs hf, ey, em, ed, number_right (by omega) ⟨p1, p2, c1, c2, c3, c4⟩, ← hc.eq]
  rfl
theorem text_back {s : ByteArray} (hs : s.size = 10) (hf : Form s) : strOf (txt (Yr s) (Mo s) (Da s)) = s := by
  obtain ⟨f0, f1, f2, f3, f4, f5, f6, f7, f8, f9⟩ := hf
  have g0 := f0.bd; have g1 := f1.bd; have g2 := f2.bd; have g3 := f3.bd; have g5 := f5.bd; have g6 := f6.bd; have g8 := f8.bd; have g9 := f9.bd
  have e : txt (Yr s) (Mo s) (Da s) = [bt s 0, bt s 1, bt s 2, bt s 3, bt s 4, bt s 5, bt s 6, bt s 7, bt s 8, bt s 9] := by
    unfold txt Yr Mo Da
    rw [f4, f7]
    simp only [List.cons.injEq, and_true, true_and]
    refine ⟨?_, ?_, ?_, ?_, ?_, ?_, ?_, ?_⟩ <;> omega
  rw [e]
  refine of_bytes hs fun i hi => ?_
  have hi : i < 10 := hi
  obtain rfl | rfl | rfl | rfl | rfl | rfl | rfl | rfl | rfl | rfl : i = 0 ∨ i = 1 ∨ i = 2 ∨ i = 3 ∨ i = 4 ∨ i = 5 ∨ i = 6 ∨ i = 7 ∨ i = 8 ∨ i = 9 := by omega
  all_goals rfl
theorem CalTexts {K : Nat} (hK : 20000 ≤ K) (n : Int) (s : ByteArray) : F.law03_CalTexts K n s = some true := by
  have tail : ((F.cal_Write K n).bind fun r4 => ((F.ref03_Is K n).bind fun r5 => (bi (!r5)
      (bi (r4.snd == 1) (some (sEq r4.fst { data := #[] })) (some Bool.false))
      ((F.cal_Parse K r4.fst).bind fun r6 => (bi (r4.snd == 0)
        ((F.ref03_Write K n).bind fun r7 => (bi (sEq r4.fst r7) (bi (r6.snd == 0) (some (r6.fst == n)) (some Bool.false)) (some Bool.false)))
        (some Bool.false)))))) = some true := by
    by_cases h : 1 ≤ n ∧ n ≤ 3652059
    · obtain ⟨y, m, d, hc, _, _, _⟩ := civ_ok hK h.1 h.2
      rw [write_ok hK hc h.1 h.2, Option.bind_some, ris_ok, Option.bind_some, bi_eq, if_neg (by simp; omega), parse_back hK hc h.1 h.2, Option.bind_some, bi_eq, if_pos (by rfl), rwrite_ok hK hc h.1 h.2, Option.bind_some, bi_eq, if_pos (seq_self _), bi_eq, if_pos (by rfl)]
      simp
    · rw [write_bad h, Option.bind_some, ris_ok, Option.bind_some, bi_eq, if_pos (by simp; omega), bi_eq, if_pos (by rfl), seq_self]
  unfold F.law03_CalTexts
  rcases parse_both (K := K) (by omega) s with ⟨hs, hf, hr, e1, e2⟩ | ⟨e, he, e1, e2⟩
  · have hc := hr.civ
    obtain ⟨r1, r2⟩ := hc.range hr.1 hr.2.1
    rw [e1, Option.bind_some, e2, Option.bind_some, awake03 hK, Option.bind_some, bi_eq, if_neg (by decide), bi_eq, if_neg (by simp), bi_eq, if_neg (by simp), bi_eq, if_pos (by rfl), write_ok hK hc r1 r2, Option.bind_some, bi_eq, if_neg (by simp), bi_eq, text_back hs hf, if_neg (by rw [seq_self]; decide)]
    exact tail
  · rw [e1, Option.bind_some, e2, Option.bind_some, awake03 hK, Option.bind_some, bi_eq, if_neg (by decide), bi_eq, if_neg (by simp), bi_eq, if_neg (by simp), bi_eq, if_neg (by simpa using he)]
    exact tail
namespace L
theorem CalTexts {a : Int} {s : ByteArray} (w0 : (Lit.int .i64 a).wf = true) (w1 : s.size ≤ maxLen) : F.law03_CalTexts 100000 a s = some true := Wide.CalTexts (by decide) a s
end L
end Go.Proofs.Ytoibhkhgpahdjaa.Wide

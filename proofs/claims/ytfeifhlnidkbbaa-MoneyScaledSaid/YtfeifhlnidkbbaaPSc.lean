/- Swapping and rotating parts of a list of shares. Conditions: rows of three numbers. -/
import Derived.Test.YtfeifhlnidkbbaaPSb
set_option linter.unusedVariables false
set_option linter.unusedSimpArgs false
namespace Go.Proofs.Ytfeifhlnidkbbaa.Wide
open Go Go.RowKit Go.Proofs.Ytfeifhlnidkbbaa.Vm
/-- Two parts of one length have changed their places. -/
structure Sw (l l' : List Rw) (a b n : Nat) : Prop where
  len : l'.length = l.length
  perm : l'.Perm l
  at_ : ∀ q, nth [] l' q = if a ≤ q ∧ q < a + n then nth [] l (b + (q - a)) else if b ≤ q ∧ q < b + n then nth [] l (a + (q - b)) else nth [] l q
theorem swr_loop {K : Nat} {a b n : Nat} (hab : a + n ≤ b) : ∀ (k i : Nat) (l : List Rw), W3 l → l.length ≤ 1000000 → b + n ≤ l.length → i ≤ n → n - i < k →
    ∃ l', F.slices_swapRangeCmpFunc_money_share__l1 K k a b n i l = some l' ∧ Sw l l' (a + i) (b + i) (n - i)
  | 0, i, l, _, _, _, _, hk => by omega
  | k + 1, i, l, hw, hl, hb, hi, hk => by
    rw [F.slices_swapRangeCmpFunc_money_share__l1, bi_eq]
    by_cases c : i < n
    · have e1 : IntKind.i64.wrap ((b : Int) + i) = ((b + i : Nat) : Int) := by rw [iw (by omega) (by omega)]; omega
      have e2 : IntKind.i64.wrap ((a : Int) + i) = ((a + i : Nat) : Int) := by rw [iw (by omega) (by omega)]; omega
      have e3 : IntKind.i64.wrap ((i : Int) + 1) = ((i + 1 : Nat) : Int) := by rw [iw (by omega) (by omega)]; omega
      have c1 : (decide (0 ≤ ((b + i : Nat) : Int)) && decide (((b + i : Nat) : Int) < (l.length : Int))) = true := by simp; omega
      have c2 : (decide (0 ≤ ((a + i : Nat) : Int)) && decide (((a + i : Nat) : Int) < (l.length : Int))) = true := by simp; omega
      have ha' : a + i < l.length := by omega
      have hb' : b + i < l.length := by omega
      rw [if_pos (by simpa using c)]
      simp only [bi_eq, e1, e2, e3, Int.toNat_natCast, row3 hw ha', row3 hw hb', List.length_set]
      rw [c1, c2, if_pos rfl, if_pos rfl, if_pos rfl, if_pos rfl]
      have mv : Mv l (swp l (a + i) (b + i)) 0 l.length := swp_mv ha' hb' (by omega) (by omega) (by omega) (by omega)
      obtain ⟨l', r1, r2⟩ := swr_loop (K := K) hab k (i + 1) (swp l (a + i) (b + i)) (hw.mv mv) (by rw [mv.len]; exact hl) (by rw [mv.len]; exact hb) (by omega) (by omega)
      refine ⟨l', r1, r2.len.trans mv.len, r2.perm.trans mv.perm, fun q => ?_⟩
      rw [r2.at_ q]
      by_cases q1 : a + (i + 1) ≤ q ∧ q < a + (i + 1) + (n - (i + 1))
      · rw [if_pos q1, if_pos (by omega), swp_nth ha' hb', if_neg (by omega), if_neg (by omega)]
        congr 1; omega
      · rw [if_neg q1]
        by_cases q2 : b + (i + 1) ≤ q ∧ q < b + (i + 1) + (n - (i + 1))
        · rw [if_pos q2, if_neg (by omega), if_pos (by omega), swp_nth ha' hb', if_neg (by omega), if_neg (by omega)]
          congr 1; omega
        · rw [if_neg q2, swp_nth ha' hb']
          by_cases q3 : q = b + i
          · subst q3
            rw [if_pos rfl, if_neg (by omega), if_pos (by omega)]
            congr 1; omega
          · rw [if_neg q3]
            by_cases q4 : q = a + i
            · subst q4
              rw [if_pos rfl, if_pos (by omega)]
              congr 1; omega
            · rw [if_neg q4, if_neg (by omega), if_neg (by omega)]
    · rw [if_neg (by simpa using c)]
      exact ⟨l, rfl, rfl, List.Perm.refl _, fun q => by rw [if_neg (by omega), if_neg (by omega)]⟩
theorem swr_ok {K a b n : Nat} (hK : n < K) (hab : a + n ≤ b) {l : List Rw} (hw : W3 l) (hl : l.length ≤ 1000000) (hb : b + n ≤ l.length) : ∃ l', F.slices_swapRangeCmpFunc_money_share_ K l a b n = some l' ∧ Sw l l' a b n := by
  obtain ⟨l', r1, r2⟩ := swr_loop (K := K) hab K 0 l hw hl hb (by omega) (by omega)
  refine ⟨l', ?_, by simpa using r2⟩
  have r1 : F.slices_swapRangeCmpFunc_money_share__l1 K K a b n 0 l = some l' := r1
  unfold F.slices_swapRangeCmpFunc_money_share_
  rw [r1, Option.bind_some, bi_eq, if_pos (by simpa using r2.len)]
theorem W3.sw {l m : List Rw} {a b n : Nat} (h : W3 l) (k : Sw l m a b n) : W3 m := fun r hr => h r (k.perm.mem_iff.1 hr)
/-- A part [p, p + i + j) rotated: its last j rows stand first. -/
structure Rot (l l' : List Rw) (p i j : Nat) : Prop where
  len : l'.length = l.length
  perm : l'.Perm l
  at_ : ∀ q, nth [] l' q = if p ≤ q ∧ q < p + j then nth [] l (q + i) else if p + j ≤ q ∧ q < p + i + j then nth [] l (q - j) else nth [] l q
theorem rot_loop {K : Nat} {m : Nat} : ∀ (k i j : Nat) (l : List Rw), W3 l → l.length ≤ 1000000 → l.length < K → 0 < i → 0 < j → i ≤ m → m + j ≤ l.length → i + j < k →
    ∃ (i' : Nat) (l1 : List Rw), F.slices_rotateCmpFunc_money_share__l2 K k m i j l = some ((m : Int), (i' : Int), l1) ∧ 0 < i' ∧ i' ≤ m ∧ m + i' ≤ l.length ∧ W3 l1 ∧ l1.length = l.length ∧ ∀ l2, Sw l1 l2 (m - i') m i' → Rot l l2 (m - i) i j
  | 0, i, j, l, _, _, _, _, _, _, _, hk => by omega
  | k + 1, i, j, l, hw, hl, hK, hi, hj, him, hmj, hk => by
    rw [F.slices_rotateCmpFunc_money_share__l2, bi_eq]
    by_cases e : i = j
    · subst e
      rw [if_neg (by simp)]
      refine ⟨i, l, rfl, hi, him, hmj, hw, rfl, fun l2 h => ⟨h.len, h.perm, fun q => ?_⟩⟩
      rw [h.at_ q]
      by_cases q1 : m - i ≤ q ∧ q < m - i + i
      · rw [if_pos q1, if_pos q1]; congr 1; omega
      · rw [if_neg q1, if_neg q1]
        by_cases q2 : m ≤ q ∧ q < m + i
        · rw [if_pos q2, if_pos (by omega)]; congr 1; omega
        · rw [if_neg q2, if_neg (by omega)]
    · have e1 : IntKind.i64.wrap ((m : Int) - i) = ((m - i : Nat) : Int) := by rw [iw (by omega) (by omega)]; omega
      rw [if_pos (by simp; omega), bi_eq]
      by_cases c : i > j
      · have e2 : IntKind.i64.wrap ((i : Int) - j) = ((i - j : Nat) : Int) := by rw [iw (by omega) (by omega)]; omega
        obtain ⟨l0, r1, r2⟩ := swr_ok (K := K) (a := m - i) (b := m) (n := j) (by omega) (by omega) hw hl hmj
        rw [if_pos (by simpa using c), e1, r1, Option.bind_some, e2]
        obtain ⟨i', l1, s1, s2, s3, s4, s5, s6, s7⟩ := rot_loop (K := K) (m := m) k (i - j) j l0 (hw.sw r2) (by rw [r2.len]; exact hl) (by rw [r2.len]; exact hK) (by omega) hj (by omega) (by rw [r2.len]; exact hmj) (by omega)
        refine ⟨i', l1, s1, s2, s3, by rw [← r2.len]; exact s4, s5, s6.trans r2.len, fun l2 h => ?_⟩
        have R := s7 l2 h
        refine ⟨R.len.trans r2.len, R.perm.trans r2.perm, fun q => ?_⟩
        rw [R.at_ q]
        by_cases q1 : m - (i - j) ≤ q ∧ q < m - (i - j) + j
        · rw [if_pos q1, r2.at_, if_neg (by omega)]
          by_cases q2 : m ≤ q + (i - j) ∧ q + (i - j) < m + j
          · rw [if_pos q2, if_neg (by omega), if_pos (by omega)]; congr 1; omega
          · omega
        · rw [if_neg q1]
          by_cases q2 : m - (i - j) + j ≤ q ∧ q < m - (i - j) + (i - j) + j
          · rw [if_pos q2, r2.at_, if_neg (by omega), if_neg (by omega), if_neg (by omega), if_pos (by omega)]
          · rw [if_neg q2, r2.at_]
            by_cases q3 : m - i ≤ q ∧ q < m - i + j
            · rw [if_pos q3, if_pos q3]; congr 1; omega
            · rw [if_neg q3, if_neg q3, if_neg (by omega), if_neg (by omega)]
      · have e2 : IntKind.i64.wrap ((j : Int) - i) = ((j - i : Nat) : Int) := by rw [iw (by omega) (by omega)]; omega
        have e3 : IntKind.i64.wrap (IntKind.i64.wrap ((m : Int) + j) - i) = ((m + j - i : Nat) : Int) := by rw [iw (x := (m : Int) + j) (by omega) (by omega), iw (by omega) (by omega)]; omega
        obtain ⟨l0, r1, r2⟩ := swr_ok (K := K) (a := m - i) (b := m + j - i) (n := i) (by omega) (by omega) hw hl (by omega)
        rw [if_neg (by simpa using c), e1, e3, r1, Option.bind_some, e2]
        obtain ⟨i', l1, s1, s2, s3, s4, s5, s6, s7⟩ := rot_loop (K := K) (m := m) k i (j - i) l0 (hw.sw r2) (by rw [r2.len]; exact hl) (by rw [r2.len]; exact hK) hi (by omega) him (by rw [r2.len]; omega) (by omega)
        refine ⟨i', l1, s1, s2, s3, by rw [← r2.len]; exact s4, s5, s6.trans r2.len, fun l2 h => ?_⟩
        have R := s7 l2 h
        refine ⟨R.len.trans r2.len, R.perm.trans r2.perm, fun q => ?_⟩
        rw [R.at_ q]
        by_cases q1 : m - i ≤ q ∧ q < m - i + (j - i)
        · rw [if_pos q1, r2.at_, if_neg (by omega), if_neg (by omega), if_pos (by omega)]
        · rw [if_neg q1]
          by_cases q2 : m - i + (j - i) ≤ q ∧ q < m - i + i + (j - i)
          · rw [if_pos q2, r2.at_, if_pos (by omega), if_pos (by omega)]; congr 1; omega
          · rw [if_neg q2, r2.at_]
            by_cases q3 : m + j - i ≤ q ∧ q < m + j - i + i
            · rw [if_neg (by omega), if_pos q3, if_neg (by omega), if_pos (by omega)]; congr 1; omega
            · rw [if_neg (by omega), if_neg q3, if_neg (by omega), if_neg (by omega)]
theorem rotate_ok {K a m b : Nat} {l : List Rw} (hw : W3 l) (hl : l.length ≤ 1000000) (hK : l.length < K) (ham : a < m) (hmb : m < b) (hb : b ≤ l.length) : ∃ l', F.slices_rotateCmpFunc_money_share_ K l a m b = some l' ∧ Rot l l' a (m - a) (b - m) := by
  obtain ⟨i', l1, s1, s2, s3, s4, s5, s6, s7⟩ := rot_loop (K := K) (m := m) K (m - a) (b - m) l hw hl hK (by omega) (by omega) (by omega) (by omega) (by omega)
  obtain ⟨l2, r1, r2⟩ := swr_ok (K := K) (a := m - i') (b := m) (n := i') (by omega) (by omega) s5 (by omega) (by omega)
  have R := s7 l2 r2
  refine ⟨l2, ?_, by rw [show m - (m - a) = a by omega] at R; exact R⟩
  unfold F.slices_rotateCmpFunc_money_share_
  have e1 : IntKind.i64.wrap ((m : Int) - a) = ((m - a : Nat) : Int) := by rw [iw (by omega) (by omega)]; omega
  have e2 : IntKind.i64.wrap ((b : Int) - m) = ((b - m : Nat) : Int) := by rw [iw (by omega) (by omega)]; omega
  have e3 : IntKind.i64.wrap ((m : Int) - i') = ((m - i' : Nat) : Int) := by rw [iw (by omega) (by omega)]; omega
  rw [e1, e2, s1, Option.bind_some]
  simp only
  rw [e3, r1, Option.bind_some, bi_eq, if_pos (by simpa using R.len)]
end Go.Proofs.Ytfeifhlnidkbbaa.Wide

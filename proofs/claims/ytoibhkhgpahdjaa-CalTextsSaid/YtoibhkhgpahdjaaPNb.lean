/- Texts of days: what cal.Write, cal.Parse and the reference's Write, DocParse answer. Conditions: none here. -/
import Derived.Test.YtoibhkhgpahdjaaPCa
set_option linter.unusedVariables false
set_option linter.unusedSimpArgs false
set_option maxHeartbeats 2000000
namespace Go.Proofs.Ytoibhkhgpahdjaa.Wide
open Go Go.RowKit Go.Proofs.Ytoibhkhgpahdjaa.Vm Go.Proofs.Ytoibhkhgpahdjaa.CalM
-- texts and their bytes
theorem strOf_app (a b : List Int) : strOf a ++ strOf b = strOf (a ++ b) := by
  apply ByteArray.ext
  simp [strOf]
theorem strOf_size (a : List Int) : (strOf a).size = a.length := by simp [strOf, ByteArray.size]
theorem bt_strOf {l : List Int} {i : Nat} (hi : i < l.length) (h : ∀ x ∈ l, 0 ≤ x ∧ x < 256) : bt (strOf l) (i : Int) = nth 0 l i := by
  have hs := strOf_size l
  have hb := h l[i] (List.getElem_mem hi)
  have e : (strOf l)[i]? = some (UInt8.ofNat l[i].toNat) := by
    rw [getElem?_pos (strOf l) i (by omega)]
    congr 1
    simp [strOf, ByteArray.getElem_eq_getElem_data]
  unfold bt
  rw [Int.toNat_natCast, e, nth_eq, List.getD_eq_getElem?_getD, List.getElem?_eq_getElem hi]
  simp
  omega
theorem bt_bd (s : ByteArray) (i : Int) : 0 ≤ bt s i ∧ bt s i ≤ 255 := by
  unfold bt
  have := (s[i.toNat]?.getD 0).toNat_lt
  omega
theorem bt_ext {s : ByteArray} {a b i : Nat} (hb : b ≤ s.size) (hi : a + i < b) : bt (s.extract a b) (i : Int) = bt s ((a + i : Nat) : Int) := by
  unfold bt
  rw [Int.toNat_natCast, Int.toNat_natCast]
  have hs : (s.extract a b).size = b - a := by simp [ByteArray.size_extract]; omega
  rw [getElem?_pos (s.extract a b) i (by omega), getElem?_pos s (a + i) (by omega)]
  simp [ByteArray.getElem_eq_getElem_data]
theorem of_bytes {s : ByteArray} {l : List Int} (hs : s.size = l.length) (h : ∀ i, i < l.length → nth 0 l i = bt s (i : Int)) : strOf l = s := by
  apply ByteArray.ext
  apply Array.ext
  · exact (strOf_size l).trans hs.symm
  · intro i h1 h2
    have hi : i < l.length := by
      have h3 : s.data.size = s.size := rfl
      omega
    have hi2 : i < s.size := h2
    have := h i hi
    unfold bt at this
    rw [Int.toNat_natCast, getElem?_pos s i (by omega), nth_eq, List.getD_eq_getElem?_getD, List.getElem?_eq_getElem hi] at this
    simp only [Option.getD_some] at this
    simp only [strOf, List.getElem_toArray, List.getElem_map, this, Int.toNat_natCast, UInt8.ofNat_toNat]
    rfl
def dg (c : Int) : Prop := 48 ≤ c ∧ c ≤ 57
instance dgDec (c : Int) : Decidable (dg c) := inferInstanceAs (Decidable (48 ≤ c ∧ c ≤ 57))
theorem dg.mk {c : Int} (h : 48 ≤ c) (k : c ≤ 57) : dg c := ⟨h, k⟩
theorem dg.bd {c : Int} (h : dg c) : 48 ≤ c ∧ c ≤ 57 := h
theorem seq_self (a : ByteArray) : sEq a a = true := by unfold sEq; exact beq_self_eq_true _
-- cal.padded, cal.figures
theorem padded_step {K k : Nat} {n i : Int} {l : List Int} (n0 : 0 ≤ n) (n1 : n < 100000) (i0 : 0 ≤ i) (i1 : i < l.length) (i2 : i < 100) : F.cal_padded_l3 K (k + 1) n l i = F.cal_padded_l3 K k (n / 10) (l.set i.toNat (48 + n % 10)) (i - 1) := by
  rw [F.cal_padded_l3, bi_eq, if_pos (by simpa using i0), bi_eq, if_pos (by simp; omega), td _ n0, tm _ n0, iw (x := n / 10) (by omega) (by omega), iw (x := 48 + n % 10) (by omega) (by omega), wu8, iw (x := i - 1) (by omega) (by omega)]
  congr 2
  omega
theorem padded4 {K : Nat} (hK : 10 ≤ K) {n : Int} (n0 : 0 ≤ n) (n1 : n ≤ 9999) : F.cal_padded K n 4 = some (strOf [48 + n / 1000, 48 + n / 100 % 10, 48 + n / 10 % 10, 48 + n % 10]) := by
  obtain ⟨k, rfl⟩ : ∃ k, K = k + 5 := ⟨K - 5, by omega⟩
  unfold F.cal_padded
  rw [bi_eq, if_pos (by decide)]
  have e : IntKind.i64.wrap (4 - 1) = 3 := by decide
  rw [e, show (4 : Int).toNat = 4 from rfl]
  have e2 : List.replicate 4 (0 : Int) = [0, 0, 0, 0] := rfl
  rw [e2, padded_step (k := k + 4) n0 (by omega) (by decide) (by simp) (by decide)]
  rw [padded_step (k := k + 3) (by omega) (by omega) (by decide) (by simp) (by decide)]
  rw [padded_step (k := k + 2) (by omega) (by omega) (by decide) (by simp) (by decide)]
  rw [padded_step (k := k + 1) (by omega) (by omega) (by decide) (by simp) (by decide)]
  rw [F.cal_padded_l3, bi_eq, if_neg (by decide), Option.bind_some]
  have h1 : n / 10 / 10 = n / 100 := by omega
  have h2 : n / 100 / 10 = n / 1000 := by omega
  have h3 : n / 1000 % 10 = n / 1000 := by omega
  simp only [show (3 : Int).toNat = 3 from rfl, show ((3 : Int) - 1).toNat = 2 from rfl, show ((3 : Int) - 1 - 1).toNat = 1 from rfl, show ((3 : Int) - 1 - 1 - 1).toNat = 0 from rfl, List.set_cons_zero, List.set_cons_succ, h1, h2, h3]
theorem padded2 {K : Nat} (hK : 10 ≤ K) {n : Int} (n0 : 0 ≤ n) (n1 : n ≤ 99) : F.cal_padded K n 2 = some (strOf [48 + n / 10, 48 + n % 10]) := by
  obtain ⟨k, rfl⟩ : ∃ k, K = k + 5 := ⟨K - 5, by omega⟩
  unfold F.cal_padded
  rw [bi_eq, if_pos (by decide)]
  have e : IntKind.i64.wrap (2 - 1) = 1 := by decide
  rw [e, show (2 : Int).toNat = 2 from rfl]
  have e2 : List.replicate 2 (0 : Int) = [0, 0] := rfl
  rw [e2, padded_step (k := k + 4) n0 (by omega) (by decide) (by simp) (by decide)]
  rw [padded_step (k := k + 3) (by omega) (by omega) (by decide) (by simp) (by decide)]
  rw [F.cal_padded_l3, bi_eq, if_neg (by decide), Option.bind_some]
  have h3 : n / 10 % 10 = n / 10 := by omega
  simp only [show (1 : Int).toNat = 1 from rfl, show ((1 : Int) - 1).toNat = 0 from rfl, List.set_cons_zero, List.set_cons_succ, h3]
theorem fig_step {K k : Nat} {t : ByteArray} {x w i : Int} (hw : w = (t.size : Int)) (i0 : 0 ≤ i) (i1 : i < w) (w4 : w ≤ 100) (x0 : 0 ≤ x) (x1 : x < 100000) :
    F.cal_figures_l3 K (k + 1) t x w i = if dg (bt t i) then F.cal_figures_l3 K k t (10 * x + (bt t i - 48)) w (i + 1) else some (.inr (-1)) := by
  have b := bt_bd t i
  have hin : (decide (0 ≤ i) && decide (i < (t.size : Int))) = true := by simp; omega
  rw [F.cal_figures_l3, bi_eq, if_pos (by simpa using i1)]
  simp only [hin, bi_eq, if_true]
  by_cases h1 : bt t i < 48
  · rw [if_pos (by simpa using h1), if_neg (fun h => by have := h.bd; omega)]
  · rw [if_neg (by simpa using h1)]
    by_cases h2 : bt t i > 57
    · rw [if_pos (by simpa using h2), if_neg (fun h => by have := h.bd; omega)]
    · rw [if_neg (by simpa using h2), if_pos (dg.mk (by omega) (by omega)), wu8, show (bt t i - 48) % 256 = bt t i - 48 by omega, iw (x := 10 * x) (by omega) (by omega), iw (x := bt t i - 48) (by omega) (by omega), iw (x := 10 * x + _) (by omega) (by omega), iw (x := i + 1) (by omega) (by omega)]
theorem fig_end {K k : Nat} {t : ByteArray} {x w : Int} : F.cal_figures_l3 K (k + 1) t x w w = some (.inl x) := by
  rw [F.cal_figures_l3, bi_eq, if_neg (by simp)]
theorem fig2 {K : Nat} (hK : 10 ≤ K) {t : ByteArray} (hs : t.size = 2) : F.cal_figures K t = some (if dg (bt t 0) ∧ dg (bt t 1) then 10 * (bt t 0 - 48) + (bt t 1 - 48) else -1) := by
  obtain ⟨k, rfl⟩ : ∃ k, K = k + 5 := ⟨K - 5, by omega⟩
  unfold F.cal_figures
  have hw : (t.size : Int) = 2 := by omega
  rw [hw, fig_step (k := k + 4) hw.symm (by omega) (by omega) (by omega) (by omega) (by omega)]
  have b0 := fun h : dg (bt t 0) => h.bd
  by_cases h0 : dg (bt t 0)
  · have b0 := h0.bd
    rw [if_pos h0, fig_step (k := k + 3) hw.symm (by omega) (by omega) (by omega) (by omega) (by omega)]
    by_cases h1 : dg (bt t (0 + 1))
    · rw [if_pos h1, show (0 : Int) + 1 + 1 = 2 from rfl, fig_end (k := k + 2), if_pos ⟨h0, h1⟩]
      simp [casO]
    · rw [if_neg h1, if_neg (fun h => h1 h.2)]
      simp [casO]
  · rw [if_neg h0, if_neg (fun h => h0 h.1)]
    simp [casO]
theorem fig4 {K : Nat} (hK : 10 ≤ K) {t : ByteArray} (hs : t.size = 4) : F.cal_figures K t = some (if dg (bt t 0) ∧ dg (bt t 1) ∧ dg (bt t 2) ∧ dg (bt t 3) then 1000 * (bt t 0 - 48) + 100 * (bt t 1 - 48) + 10 * (bt t 2 - 48) + (bt t 3 - 48) else -1) := by
  obtain ⟨k, rfl⟩ : ∃ k, K = k + 5 := ⟨K - 5, by omega⟩
  unfold F.cal_figures
  have hw : (t.size : Int) = 4 := by omega
  rw [hw, fig_step (k := k + 4) hw.symm (by omega) (by omega) (by omega) (by omega) (by omega)]
  have b0 := fun h : dg (bt t 0) => h.bd
  by_cases h0 : dg (bt t 0)
  · have b0 := h0.bd
    rw [if_pos h0, fig_step (k := k + 3) hw.symm (by omega) (by omega) (by omega) (by omega) (by omega)]
    by_cases h1 : dg (bt t (0 + 1))
    · have b1 := h1.bd
      rw [if_pos h1, fig_step (k := k + 2) hw.symm (by omega) (by omega) (by omega) (by omega) (by omega)]
      by_cases h2 : dg (bt t (0 + 1 + 1))
      · have b2 := h2.bd
        rw [if_pos h2, fig_step (k := k + 1) hw.symm (by omega) (by omega) (by omega) (by omega) (by omega)]
        by_cases h3 : dg (bt t (0 + 1 + 1 + 1))
        · rw [if_pos h3, show (0 : Int) + 1 + 1 + 1 + 1 = 4 from rfl, fig_end (k := k), if_pos ⟨h0, h1, h2, h3⟩]
          simp only [casO, Option.bind_some, show (0 : Int) + 1 = 1 from rfl, show (1 : Int) + 1 = 2 from rfl, show (2 : Int) + 1 = 3 from rfl]
          congr 1; omega
        · rw [if_neg h3, if_neg (fun h => h3 h.2.2.2)]
          simp [casO]
      · rw [if_neg h2, if_neg (fun h => h2 h.2.2.1)]
        simp [casO]
    · rw [if_neg h1, if_neg (fun h => h1 h.2.1)]
      simp [casO]
  · rw [if_neg h0, if_neg (fun h => h0 h.1)]
    simp [casO]
/-- A date that there is. -/
def Right (y m d : Int) : Prop := 1 ≤ y ∧ y ≤ 9999 ∧ 1 ≤ m ∧ m ≤ 12 ∧ 1 ≤ d ∧ d ≤ CalM.len y m
theorem Right.civ {y m d : Int} (h : Right y m d) : Civ (ah y + cum y m + d) y m d := ⟨h.2.2.1, h.2.2.2.1, h.2.2.2.2.1, h.2.2.2.2.2, rfl⟩
theorem number_right {K : Nat} (hK : 100 ≤ K) {y m d : Int} (h : Right y m d) : F.cal_Number K y m d = some (ah y + cum y m + d, 0) := by
  obtain ⟨h1, h2, m1, m2, d1, d2⟩ := h
  have lb := len_bd y m
  have ab := ah_bd h1 (show y ≤ 10000 by omega)
  unfold F.cal_Number
  simp only [bi_eq]
  rw [if_neg (by simp; omega), if_neg (by simp; omega), if_neg (by simp; omega), if_neg (by simp; omega), if_neg (by simp; omega), clen_ok K (by omega) m1 m2, Option.bind_some, if_neg (by simp; omega), cahead_ok K h1 (by omega), Option.bind_some, iw (x := ah y + d) (by omega) (by omega), cnum_loop h1 h2 m2 K 1 _ (by decide) m1 (by omega) (by omega) (by omega), Option.bind_some, cum1]
  congr 2; omega
theorem number_wrong {K : Nat} {y m d : Int} (h : ¬ Right y m d) : ∃ v e, e ≠ 0 ∧ F.cal_Number K y m d = some (v, e) := by
  unfold F.cal_Number
  simp only [bi_eq]
  by_cases h1 : y < 1
  · exact ⟨0, 1, by decide, by rw [if_pos (by simpa using h1)]⟩
  rw [if_neg (by simpa using h1)]
  by_cases h2 : y > 9999
  · exact ⟨0, 1, by decide, by rw [if_pos (by simpa using h2)]⟩
  rw [if_neg (by simpa using h2)]
  by_cases h3 : m < 1
  · exact ⟨0, 9, by decide, by rw [if_pos (by simpa using h3)]⟩
  rw [if_neg (by simpa using h3)]
  by_cases h4 : m > 12
  · exact ⟨0, 9, by decide, by rw [if_pos (by simpa using h4)]⟩
  rw [if_neg (by simpa using h4)]
  by_cases h5 : d < 1
  · exact ⟨0, 9, by decide, by rw [if_pos (by simpa using h5)]⟩
  rw [if_neg (by simpa using h5), clen_ok K (by omega) (by omega) (by omega), Option.bind_some]
  have h6 : d > CalM.len y m := by
    refine Int.not_le.1 fun h6 => h ⟨by omega, by omega, by omega, by omega, by omega, h6⟩
  exact ⟨0, 9, by decide, by rw [if_pos (by simpa using h6)]⟩
theorem doc_right {K : Nat} (hK : 1000 ≤ K) {y m d : Int} (h : Right y m d) : F.ref03_DocNumber K y m d = some (ah y + cum y m + d, 0) := by
  obtain ⟨h1, h2, m1, m2, d1, d2⟩ := h
  have lb := len_bd y m
  unfold F.ref03_DocNumber
  simp only [bi_eq]
  rw [if_neg (by simp; omega), if_neg (by simp; omega), if_neg (by simp; omega), if_neg (by simp; omega), if_neg (by simp; omega), rleng_ok K (by omega) m1 m2, Option.bind_some, if_neg (by simp; omega), rnumber_ok hK h1 h2 m1 m2 (by omega) (by omega), Option.bind_some]
theorem doc_wrong {K : Nat} {y m d : Int} (h : ¬ Right y m d) : ∃ v e, e ≠ 0 ∧ F.ref03_DocNumber K y m d = some (v, e) := by
  unfold F.ref03_DocNumber
  simp only [bi_eq]
  by_cases h1 : y < 1
  · exact ⟨0, 1, by decide, by rw [if_pos (by simpa using h1)]⟩
  rw [if_neg (by simpa using h1)]
  by_cases h2 : y > 9999
  · exact ⟨0, 1, by decide, by rw [if_pos (by simpa using h2)]⟩
  rw [if_neg (by simpa using h2)]
  by_cases h3 : m < 1
  · exact ⟨0, 9, by decide, by rw [if_pos (by simpa using h3)]⟩
  rw [if_neg (by simpa using h3)]
  by_cases h4 : m > 12
  · exact ⟨0, 9, by decide, by rw [if_pos (by simpa using h4)]⟩
  rw [if_neg (by simpa using h4)]
  by_cases h5 : d < 1
  · exact ⟨0, 9, by decide, by rw [if_pos (by simpa using h5)]⟩
  rw [if_neg (by simpa using h5), rleng_ok K (by omega) (by omega) (by omega), Option.bind_some]
  have h6 : d > CalM.len y m := by
    refine Int.not_le.1 fun h6 => h ⟨by omega, by omega, by omega, by omega, by omega, h6⟩
  exact ⟨0, 9, by decide, by rw [if_pos (by simpa using h6)]⟩
end Go.Proofs.Ytoibhkhgpahdjaa.Wide

/- What package wide's functions answer: shifts. Conditions: words are uint64; a shift is at most 383. -/
import Derived.Test.YtppdgohcgklinaaPWc
set_option linter.unusedVariables false
set_option linter.unusedSimpArgs false
namespace Go.Proofs.Ytppdgohcgklinaa.Wide
open Go Go.RowKit Go.Proofs.Ytppdgohcgklinaa.Vm
theorem and63 (x : Int) (h0 : 0 ≤ x) (h1 : x < 9223372036854775808) : land .i64 x 63 = x % 64 :=
  bits_mask .i64 63 (by decide) (fun n h0 h1 => by rw [wi]; omega) 6 (by decide) x h0 h1
/-- A word shifted by s: what stays, what goes out at the top. -/
theorem shl_word {a s : Int} (ha : Word a) (s0 : 0 ≤ s) (s1 : s ≤ 63) : ∃ l h : Int, l = IntKind.u64.wrap (a * 2 ^ s.toNat) ∧ a * 2 ^ s.toNat = l + 18446744073709551616 * h ∧ (∃ m, l = 2 ^ s.toNat * m) ∧ 0 ≤ h ∧ h < 2 ^ s.toNat ∧ 0 ≤ l ∧ l ≤ 18446744073709551616 - 2 ^ s.toNat ∧ (0 < s → h = a / 2 ^ (64 - s).toNat) := by
  obtain ⟨n, rfl⟩ := Int.eq_ofNat_of_zero_le s0
  have hn : n ≤ 63 := by omega
  have e : (2 : Int) ^ (64 - n) * 2 ^ n = 18446744073709551616 := by rw [← Int.pow_add, show 64 - n + n = 64 by omega]; decide
  have hp : (0 : Int) < 2 ^ n := Int.pow_pos (by decide)
  have hq : (0 : Int) < 2 ^ (64 - n) := Int.pow_pos (by decide)
  simp only [Int.toNat_natCast]
  have d := Int.emod_add_mul_ediv (a * 2 ^ n) 18446744073709551616
  have hd : a * 2 ^ n / 18446744073709551616 = a / 2 ^ (64 - n) := by rw [← e]; exact Int.mul_ediv_mul_of_pos_left _ _ hp
  have hm : a * 2 ^ n % 18446744073709551616 = 2 ^ n * (a % 2 ^ (64 - n)) := by rw [← e, Int.mul_comm a, Int.mul_comm (2 ^ (64 - n)) (2 ^ n)]; exact Int.mul_emod_mul_of_pos _ _ hp
  refine ⟨_, a * 2 ^ n / 18446744073709551616, rfl, ?_, ⟨a % 2 ^ (64 - n), ?_⟩, ?_, ?_, ?_, ?_, ?_⟩
  · rw [wu]; omega
  · rw [wu]; exact hm
  · rw [hd]; exact Int.ediv_nonneg ha.1 (by omega)
  · rw [hd]; exact (Int.ediv_lt_iff_lt_mul hq).2 (by rw [Int.mul_comm, e]; unfold Word at ha; omega)
  · rw [wu]; omega
  · rw [wu, hm]
    have b1 := Int.emod_lt_of_pos a hq
    have b2 := Int.mul_le_mul_of_nonneg_left (show a % 2 ^ (64 - n) ≤ 2 ^ (64 - n) - 1 by omega) (show (0 : Int) ≤ 2 ^ n by omega)
    rw [Int.mul_sub, Int.mul_one, Int.mul_comm _ (2 ^ (64 - n)), e] at b2
    exact b2
  · intro hs
    rw [hd, show (64 - (n : Int)).toNat = 64 - n by omega]
/-- The two parts lie apart. -/
theorem or_parts {s l h : Int} (s0 : 0 ≤ s) (s1 : s ≤ 63) (l0 : 0 ≤ l) (l1 : l ≤ 18446744073709551616 - 2 ^ s.toNat) (lm : ∃ m, l = 2 ^ s.toNat * m) (h0 : 0 ≤ h) (h1 : h < 2 ^ s.toNat) : lor .u64 l h = l + h := by
  have hp : (0 : Int) < 2 ^ s.toNat := Int.pow_pos (by decide)
  obtain ⟨m, hm⟩ := lm
  exact bits_join .u64 64 (by decide) wraps64 s.toNat l h l0 (by rw [hm]; exact Int.mul_emod_right _ _) (by omega) h0 h1 (by omega)
set_option maxRecDepth 100000 in
set_option maxHeartbeats 4000000 in
theorem left_ok {K : Nat} (hK : 7 ≤ K) {a0 a1 a2 a3 a4 a5 n : Int} (ha : Words a0 a1 a2 a3 a4 a5) (n0 : 0 ≤ n) (n1 : n ≤ 383) :
    F.wide_Int_Left K a0 a1 a2 a3 a4 a5 n = some (tup (val a0 a1 a2 a3 a4 a5 * 2 ^ n.toNat % TOP)) := by
  obtain ⟨k, rfl⟩ : ∃ k, K = k + 7 := ⟨K - 7, by omega⟩
  obtain ⟨x0, x1, x2, x3, x4, x5⟩ := id ha
  have hs := and63 n n0 (by omega)
  obtain ⟨s, hsd⟩ : ∃ s : Int, s = n % 64 := ⟨_, rfl⟩
  rw [← hsd] at hs
  have s0 : 0 ≤ s := by omega
  have s1 : s ≤ 63 := by omega
  have sn : ¬ s < 0 := by omega
  have mn : min s.toNat 64 = s.toNat := by omega
  have uw1 : IntKind.u64.wrap s = s := uw s0 (by omega)
  have fw : n.fdiv 64 = n / 64 := fd n 64 (by decide)
  have hp : (0 : Int) < 2 ^ s.toNat := Int.pow_pos (by decide)
  obtain ⟨l0, h0, L0, e0, m0, hn0, hx0, ln0, lx0, hh0⟩ := shl_word x0 s0 s1
  obtain ⟨l1, h1, L1, e1, m1, hn1, hx1, ln1, lx1, hh1⟩ := shl_word x1 s0 s1
  obtain ⟨l2, h2, L2, e2, m2, hn2, hx2, ln2, lx2, hh2⟩ := shl_word x2 s0 s1
  obtain ⟨l3, h3, L3, e3, m3, hn3, hx3, ln3, lx3, hh3⟩ := shl_word x3 s0 s1
  obtain ⟨l4, h4, L4, e4, m4, hn4, hx4, ln4, lx4, hh4⟩ := shl_word x4 s0 s1
  obtain ⟨l5, h5, L5, e5, m5, hn5, hx5, ln5, lx5, hh5⟩ := shl_word x5 s0 s1
  rcases (show n / 64 = 0 ∨ n / 64 = 1 ∨ n / 64 = 2 ∨ n / 64 = 3 ∨ n / 64 = 4 ∨ n / 64 = 5 by omega) with hw | hw | hw | hw | hw | hw
  · have pw : (2 : Int) ^ n.toNat = 1 * 2 ^ s.toNat := by rw [show n.toNat = 0 + s.toNat by omega, Int.pow_add]; congr 1
    have hq : Words l0 (l1 + h0) (l2 + h1) (l3 + h2) (l4 + h3) (l5 + h4) := by unfold Words Word; omega
    rw [pw, left_tup0 ha e0 e1 e2 e3 e4 e5 hq]
    by_cases sp : 0 < s
    · have wr : IntKind.u64.wrap (64 - s) = 64 - s := uw (by omega) (by omega)
      have g1 : ¬ (64 - s < 0) := by omega
      have g2 : min (64 - s).toNat 64 = (64 - s).toNat := by omega
      have o1 : lor .u64 l1 (a0.fdiv (2 ^ (64 - s).toNat)) = l1 + h0 := by rw [fd _ _ (Int.le_of_lt (Int.pow_pos (by decide))), ← hh0 sp]; exact or_parts s0 s1 ln1 lx1 m1 hn0 hx0
      have o2 : lor .u64 l2 (a1.fdiv (2 ^ (64 - s).toNat)) = l2 + h1 := by rw [fd _ _ (Int.le_of_lt (Int.pow_pos (by decide))), ← hh1 sp]; exact or_parts s0 s1 ln2 lx2 m2 hn1 hx1
      have o3 : lor .u64 l3 (a2.fdiv (2 ^ (64 - s).toNat)) = l3 + h2 := by rw [fd _ _ (Int.le_of_lt (Int.pow_pos (by decide))), ← hh2 sp]; exact or_parts s0 s1 ln3 lx3 m3 hn2 hx2
      have o4 : lor .u64 l4 (a3.fdiv (2 ^ (64 - s).toNat)) = l4 + h3 := by rw [fd _ _ (Int.le_of_lt (Int.pow_pos (by decide))), ← hh3 sp]; exact or_parts s0 s1 ln4 lx4 m4 hn3 hx3
      have o5 : lor .u64 l5 (a4.fdiv (2 ^ (64 - s).toNat)) = l5 + h4 := by rw [fd _ _ (Int.le_of_lt (Int.pow_pos (by decide))), ← hh4 sp]; exact or_parts s0 s1 ln5 lx5 m5 hn4 hx4
      simp [F.wide_Int_Left, F.wide_Int_Left_l4, nth, iw, fw, hw, hs, uw1, sn, sp, mn, wr, g1, g2, ← L0, ← L1, ← L2, ← L3, ← L4, ← L5, o1, o2, o3, o4, o5]
    · have sz : s = 0 := by omega
      have hz : h0 = 0 ∧ h1 = 0 ∧ h2 = 0 ∧ h3 = 0 ∧ h4 = 0 := by rw [sz] at hx0 hx1 hx2 hx3 hx4; simp at hx0 hx1 hx2 hx3 hx4; omega
      simp [F.wide_Int_Left, F.wide_Int_Left_l4, nth, iw, fw, hw, hs, uw1, sn, sp, mn, hz, ← L0, ← L1, ← L2, ← L3, ← L4, ← L5]
  · have pw : (2 : Int) ^ n.toNat = 18446744073709551616 * 2 ^ s.toNat := by rw [show n.toNat = 64 + s.toNat by omega, Int.pow_add]; congr 1
    have hq : Words 0 l0 (l1 + h0) (l2 + h1) (l3 + h2) (l4 + h3) := by unfold Words Word; omega
    rw [pw, left_tup1 ha e0 e1 e2 e3 e4 e5 hq]
    by_cases sp : 0 < s
    · have wr : IntKind.u64.wrap (64 - s) = 64 - s := uw (by omega) (by omega)
      have g1 : ¬ (64 - s < 0) := by omega
      have g2 : min (64 - s).toNat 64 = (64 - s).toNat := by omega
      have o1 : lor .u64 l1 (a0.fdiv (2 ^ (64 - s).toNat)) = l1 + h0 := by rw [fd _ _ (Int.le_of_lt (Int.pow_pos (by decide))), ← hh0 sp]; exact or_parts s0 s1 ln1 lx1 m1 hn0 hx0
      have o2 : lor .u64 l2 (a1.fdiv (2 ^ (64 - s).toNat)) = l2 + h1 := by rw [fd _ _ (Int.le_of_lt (Int.pow_pos (by decide))), ← hh1 sp]; exact or_parts s0 s1 ln2 lx2 m2 hn1 hx1
      have o3 : lor .u64 l3 (a2.fdiv (2 ^ (64 - s).toNat)) = l3 + h2 := by rw [fd _ _ (Int.le_of_lt (Int.pow_pos (by decide))), ← hh2 sp]; exact or_parts s0 s1 ln3 lx3 m3 hn2 hx2
      have o4 : lor .u64 l4 (a3.fdiv (2 ^ (64 - s).toNat)) = l4 + h3 := by rw [fd _ _ (Int.le_of_lt (Int.pow_pos (by decide))), ← hh3 sp]; exact or_parts s0 s1 ln4 lx4 m4 hn3 hx3
      simp [F.wide_Int_Left, F.wide_Int_Left_l4, nth, iw, fw, hw, hs, uw1, sn, sp, mn, wr, g1, g2, ← L0, ← L1, ← L2, ← L3, ← L4, o1, o2, o3, o4]
    · have sz : s = 0 := by omega
      have hz : h0 = 0 ∧ h1 = 0 ∧ h2 = 0 ∧ h3 = 0 := by rw [sz] at hx0 hx1 hx2 hx3; simp at hx0 hx1 hx2 hx3; omega
      simp [F.wide_Int_Left, F.wide_Int_Left_l4, nth, iw, fw, hw, hs, uw1, sn, sp, mn, hz, ← L0, ← L1, ← L2, ← L3, ← L4]
  · have pw : (2 : Int) ^ n.toNat = 340282366920938463463374607431768211456 * 2 ^ s.toNat := by rw [show n.toNat = 128 + s.toNat by omega, Int.pow_add]; congr 1
    have hq : Words 0 0 l0 (l1 + h0) (l2 + h1) (l3 + h2) := by unfold Words Word; omega
    rw [pw, left_tup2 ha e0 e1 e2 e3 e4 e5 hq]
    by_cases sp : 0 < s
    · have wr : IntKind.u64.wrap (64 - s) = 64 - s := uw (by omega) (by omega)
      have g1 : ¬ (64 - s < 0) := by omega
      have g2 : min (64 - s).toNat 64 = (64 - s).toNat := by omega
      have o1 : lor .u64 l1 (a0.fdiv (2 ^ (64 - s).toNat)) = l1 + h0 := by rw [fd _ _ (Int.le_of_lt (Int.pow_pos (by decide))), ← hh0 sp]; exact or_parts s0 s1 ln1 lx1 m1 hn0 hx0
      have o2 : lor .u64 l2 (a1.fdiv (2 ^ (64 - s).toNat)) = l2 + h1 := by rw [fd _ _ (Int.le_of_lt (Int.pow_pos (by decide))), ← hh1 sp]; exact or_parts s0 s1 ln2 lx2 m2 hn1 hx1
      have o3 : lor .u64 l3 (a2.fdiv (2 ^ (64 - s).toNat)) = l3 + h2 := by rw [fd _ _ (Int.le_of_lt (Int.pow_pos (by decide))), ← hh2 sp]; exact or_parts s0 s1 ln3 lx3 m3 hn2 hx2
      simp [F.wide_Int_Left, F.wide_Int_Left_l4, nth, iw, fw, hw, hs, uw1, sn, sp, mn, wr, g1, g2, ← L0, ← L1, ← L2, ← L3, o1, o2, o3]
    · have sz : s = 0 := by omega
      have hz : h0 = 0 ∧ h1 = 0 ∧ h2 = 0 := by rw [sz] at hx0 hx1 hx2; simp at hx0 hx1 hx2; omega
      simp [F.wide_Int_Left, F.wide_Int_Left_l4, nth, iw, fw, hw, hs, uw1, sn, sp, mn, hz, ← L0, ← L1, ← L2, ← L3]
  · have pw : (2 : Int) ^ n.toNat = 6277101735386680763835789423207666416102355444464034512896 * 2 ^ s.toNat := by rw [show n.toNat = 192 + s.toNat by omega, Int.pow_add]; congr 1
    have hq : Words 0 0 0 l0 (l1 + h0) (l2 + h1) := by unfold Words Word; omega
    rw [pw, left_tup3 ha e0 e1 e2 e3 e4 e5 hq]
    by_cases sp : 0 < s
    · have wr : IntKind.u64.wrap (64 - s) = 64 - s := uw (by omega) (by omega)
      have g1 : ¬ (64 - s < 0) := by omega
      have g2 : min (64 - s).toNat 64 = (64 - s).toNat := by omega
      have o1 : lor .u64 l1 (a0.fdiv (2 ^ (64 - s).toNat)) = l1 + h0 := by rw [fd _ _ (Int.le_of_lt (Int.pow_pos (by decide))), ← hh0 sp]; exact or_parts s0 s1 ln1 lx1 m1 hn0 hx0
      have o2 : lor .u64 l2 (a1.fdiv (2 ^ (64 - s).toNat)) = l2 + h1 := by rw [fd _ _ (Int.le_of_lt (Int.pow_pos (by decide))), ← hh1 sp]; exact or_parts s0 s1 ln2 lx2 m2 hn1 hx1
      simp [F.wide_Int_Left, F.wide_Int_Left_l4, nth, iw, fw, hw, hs, uw1, sn, sp, mn, wr, g1, g2, ← L0, ← L1, ← L2, o1, o2]
    · have sz : s = 0 := by omega
      have hz : h0 = 0 ∧ h1 = 0 := by rw [sz] at hx0 hx1; simp at hx0 hx1; omega
      simp [F.wide_Int_Left, F.wide_Int_Left_l4, nth, iw, fw, hw, hs, uw1, sn, sp, mn, hz, ← L0, ← L1, ← L2]
  · have pw : (2 : Int) ^ n.toNat = 115792089237316195423570985008687907853269984665640564039457584007913129639936 * 2 ^ s.toNat := by rw [show n.toNat = 256 + s.toNat by omega, Int.pow_add]; congr 1
    have hq : Words 0 0 0 0 l0 (l1 + h0) := by unfold Words Word; omega
    rw [pw, left_tup4 ha e0 e1 e2 e3 e4 e5 hq]
    by_cases sp : 0 < s
    · have wr : IntKind.u64.wrap (64 - s) = 64 - s := uw (by omega) (by omega)
      have g1 : ¬ (64 - s < 0) := by omega
      have g2 : min (64 - s).toNat 64 = (64 - s).toNat := by omega
      have o1 : lor .u64 l1 (a0.fdiv (2 ^ (64 - s).toNat)) = l1 + h0 := by rw [fd _ _ (Int.le_of_lt (Int.pow_pos (by decide))), ← hh0 sp]; exact or_parts s0 s1 ln1 lx1 m1 hn0 hx0
      simp [F.wide_Int_Left, F.wide_Int_Left_l4, nth, iw, fw, hw, hs, uw1, sn, sp, mn, wr, g1, g2, ← L0, ← L1, o1]
    · have sz : s = 0 := by omega
      have hz : h0 = 0 := by rw [sz] at hx0; simp at hx0; omega
      simp [F.wide_Int_Left, F.wide_Int_Left_l4, nth, iw, fw, hw, hs, uw1, sn, sp, mn, hz, ← L0, ← L1]
  · have pw : (2 : Int) ^ n.toNat = 2135987035920910082395021706169552114602704522356652769947041607822219725780640550022962086936576 * 2 ^ s.toNat := by rw [show n.toNat = 160 + 160 + s.toNat by omega, Int.pow_add, Int.pow_add]; congr 1
    have hq : Words 0 0 0 0 0 l0 := by unfold Words Word; omega
    rw [pw, left_tup5 ha e0 e1 e2 e3 e4 e5 hq]
    by_cases sp : 0 < s
    · have wr : IntKind.u64.wrap (64 - s) = 64 - s := uw (by omega) (by omega)
      have g1 : ¬ (64 - s < 0) := by omega
      have g2 : min (64 - s).toNat 64 = (64 - s).toNat := by omega
      simp [F.wide_Int_Left, F.wide_Int_Left_l4, nth, iw, fw, hw, hs, uw1, sn, sp, mn, wr, g1, g2, ← L0]
    · have sz : s = 0 := by omega
      simp [F.wide_Int_Left, F.wide_Int_Left_l4, nth, iw, fw, hw, hs, uw1, sn, sp, mn, ← L0]
end Go.Proofs.Ytppdgohcgklinaa.Wide

/- What package wide's functions answer: lengths and products. Conditions: words are uint64. -/
import Derived.Test.YtppdgohcgklinaaPWb
set_option linter.unusedVariables false
set_option linter.unusedSimpArgs false
namespace Go.Proofs.Ytppdgohcgklinaa.Wide
open Go Go.RowKit Go.Proofs.Ytppdgohcgklinaa.Vm
set_option maxRecDepth 10000 in
theorem len_ok {K : Nat} (hK : 7 ≤ K) {a0 a1 a2 a3 a4 a5 : Int} (ha : Words a0 a1 a2 a3 a4 a5) : F.wide_Int_Len K a0 a1 a2 a3 a4 a5 = some (blen (val a0 a1 a2 a3 a4 a5)) := by
  obtain ⟨k, rfl⟩ : ∃ k, K = k + 7 := ⟨K - 7, by omega⟩
  obtain ⟨ha0, ha1, ha2, ha3, ha4, ha5⟩ := id ha
  by_cases h5 : 0 < a5
  · have e := len64_val (k + 7) ha5
    have bl := bl64 (x := a5) (by unfold Word at ha5; omega)
    rw [blen_5 ha  h5]
    simp [F.wide_Int_Len, F.wide_Int_Len_l2, nth, casO, h5, iw, e]
    rw [iw (by omega) (by omega)]
  have g5 : a5 = 0 := by unfold Word at ha5; omega
  by_cases h4 : 0 < a4
  · have e := len64_val (k + 7) ha4
    have bl := bl64 (x := a4) (by unfold Word at ha4; omega)
    rw [blen_4 ha g5 h4]
    simp [F.wide_Int_Len, F.wide_Int_Len_l2, nth, casO, h4, g5, iw, e]
    rw [iw (by omega) (by omega)]
  have g4 : a4 = 0 := by unfold Word at ha4; omega
  by_cases h3 : 0 < a3
  · have e := len64_val (k + 7) ha3
    have bl := bl64 (x := a3) (by unfold Word at ha3; omega)
    rw [blen_3 ha g4 g5 h3]
    simp [F.wide_Int_Len, F.wide_Int_Len_l2, nth, casO, h3, g4, g5, iw, e]
    rw [iw (by omega) (by omega)]
  have g3 : a3 = 0 := by unfold Word at ha3; omega
  by_cases h2 : 0 < a2
  · have e := len64_val (k + 7) ha2
    have bl := bl64 (x := a2) (by unfold Word at ha2; omega)
    rw [blen_2 ha g3 g4 g5 h2]
    simp [F.wide_Int_Len, F.wide_Int_Len_l2, nth, casO, h2, g3, g4, g5, iw, e]
    rw [iw (by omega) (by omega)]
  have g2 : a2 = 0 := by unfold Word at ha2; omega
  by_cases h1 : 0 < a1
  · have e := len64_val (k + 7) ha1
    have bl := bl64 (x := a1) (by unfold Word at ha1; omega)
    rw [blen_1 ha g2 g3 g4 g5 h1]
    simp [F.wide_Int_Len, F.wide_Int_Len_l2, nth, casO, h1, g2, g3, g4, g5, iw, e]
    rw [iw (by omega) (by omega)]
  have g1 : a1 = 0 := by unfold Word at ha1; omega
  by_cases h0 : 0 < a0
  · have e := len64_val (k + 7) ha0
    have bl := bl64 (x := a0) (by unfold Word at ha0; omega)
    rw [blen_0 ha g1 g2 g3 g4 g5 h0]
    simp [F.wide_Int_Len, F.wide_Int_Len_l2, nth, casO, h0, g1, g2, g3, g4, g5, iw, e]
    rw [iw (by omega) (by omega)]
  have g0 : a0 = 0 := by unfold Word at ha0; omega
  subst g0 g1 g2 g3 g4 g5
  simp [F.wide_Int_Len, F.wide_Int_Len_l2, nth, casO, iw, val, blen]
/-- One step of a product: a b + c + d, its lower and its upper word. -/
theorem mac_st (K : Nat) {a b c d : Int} (ha : Word a) (hb : Word b) (hc : Word c) (hd : Word d) : ∃ h l p k q m t : Int, F.bits_Mul64 K a b = some (h, l) ∧ add64 l c 0 = some (p, k) ∧ add64 p d 0 = some (q, m) ∧
    IntKind.u64.wrap (IntKind.u64.wrap (h + k) + m) = t ∧ Word q ∧ Word t ∧ q + 18446744073709551616 * t = a * b + c + d := by
  have mb := mul_le (a := a) (b := b) (A := 18446744073709551615) (B := 18446744073709551615) ha.1 ha.2 hb.1 hb.2
  obtain ⟨p, k, e1, hp, hk, _⟩ := add_st (x := a * b % 18446744073709551616) (y := c) (c := 0) (by unfold Word; omega) hc (by decide)
  obtain ⟨q, m, e2, hq, hm, _⟩ := add_st (x := p) (y := d) (c := 0) (by unfold Word at *; omega) hd (by decide)
  unfold Word at hc hd
  refine ⟨_, _, p, k, q, m, _, mul64_val K ha hb, e1, e2, rfl, ?_⟩
  rw [wu, wu]
  generalize a * b = z at *
  unfold Word
  omega
set_option maxRecDepth 100000 in
set_option maxHeartbeats 4000000 in
theorem mul_ok {K : Nat} (hK : 7 ≤ K) {a0 a1 a2 a3 a4 a5 b0 b1 b2 b3 b4 b5 : Int} (ha : Words a0 a1 a2 a3 a4 a5) (hb : Words b0 b1 b2 b3 b4 b5) :
    F.wide_Int_Mul K a0 a1 a2 a3 a4 a5 b0 b1 b2 b3 b4 b5 = some (tup ((val a0 a1 a2 a3 a4 a5 * val b0 b1 b2 b3 b4 b5) % TOP)) := by
  obtain ⟨k, rfl⟩ : ∃ k, K = k + 7 := ⟨K - 7, by omega⟩
  obtain ⟨ha0, ha1, ha2, ha3, ha4, ha5⟩ := id ha
  obtain ⟨hb0, hb1, hb2, hb3, hb4, hb5⟩ := id hb
  have z0 : Word 0 := by decide
  obtain ⟨h00, l00, p00, k00, q00, m00, t00, x00, y00, u00, s00, w00, v00, e00⟩ := mac_st (k + 7) ha0 hb0 z0 z0
  obtain ⟨h01, l01, p01, k01, q01, m01, t01, x01, y01, u01, s01, w01, v01, e01⟩ := mac_st (k + 7) ha0 hb1 z0 v00
  obtain ⟨h02, l02, p02, k02, q02, m02, t02, x02, y02, u02, s02, w02, v02, e02⟩ := mac_st (k + 7) ha0 hb2 z0 v01
  obtain ⟨h03, l03, p03, k03, q03, m03, t03, x03, y03, u03, s03, w03, v03, e03⟩ := mac_st (k + 7) ha0 hb3 z0 v02
  obtain ⟨h04, l04, p04, k04, q04, m04, t04, x04, y04, u04, s04, w04, v04, e04⟩ := mac_st (k + 7) ha0 hb4 z0 v03
  obtain ⟨h05, l05, p05, k05, q05, m05, t05, x05, y05, u05, s05, w05, v05, e05⟩ := mac_st (k + 7) ha0 hb5 z0 v04
  obtain ⟨h10, l10, p10, k10, q10, m10, t10, x10, y10, u10, s10, w10, v10, e10⟩ := mac_st (k + 7) ha1 hb0 w01 z0
  obtain ⟨h11, l11, p11, k11, q11, m11, t11, x11, y11, u11, s11, w11, v11, e11⟩ := mac_st (k + 7) ha1 hb1 w02 v10
  obtain ⟨h12, l12, p12, k12, q12, m12, t12, x12, y12, u12, s12, w12, v12, e12⟩ := mac_st (k + 7) ha1 hb2 w03 v11
  obtain ⟨h13, l13, p13, k13, q13, m13, t13, x13, y13, u13, s13, w13, v13, e13⟩ := mac_st (k + 7) ha1 hb3 w04 v12
  obtain ⟨h14, l14, p14, k14, q14, m14, t14, x14, y14, u14, s14, w14, v14, e14⟩ := mac_st (k + 7) ha1 hb4 w05 v13
  obtain ⟨h20, l20, p20, k20, q20, m20, t20, x20, y20, u20, s20, w20, v20, e20⟩ := mac_st (k + 7) ha2 hb0 w11 z0
  obtain ⟨h21, l21, p21, k21, q21, m21, t21, x21, y21, u21, s21, w21, v21, e21⟩ := mac_st (k + 7) ha2 hb1 w12 v20
  obtain ⟨h22, l22, p22, k22, q22, m22, t22, x22, y22, u22, s22, w22, v22, e22⟩ := mac_st (k + 7) ha2 hb2 w13 v21
  obtain ⟨h23, l23, p23, k23, q23, m23, t23, x23, y23, u23, s23, w23, v23, e23⟩ := mac_st (k + 7) ha2 hb3 w14 v22
  obtain ⟨h30, l30, p30, k30, q30, m30, t30, x30, y30, u30, s30, w30, v30, e30⟩ := mac_st (k + 7) ha3 hb0 w21 z0
  obtain ⟨h31, l31, p31, k31, q31, m31, t31, x31, y31, u31, s31, w31, v31, e31⟩ := mac_st (k + 7) ha3 hb1 w22 v30
  obtain ⟨h32, l32, p32, k32, q32, m32, t32, x32, y32, u32, s32, w32, v32, e32⟩ := mac_st (k + 7) ha3 hb2 w23 v31
  obtain ⟨h40, l40, p40, k40, q40, m40, t40, x40, y40, u40, s40, w40, v40, e40⟩ := mac_st (k + 7) ha4 hb0 w31 z0
  obtain ⟨h41, l41, p41, k41, q41, m41, t41, x41, y41, u41, s41, w41, v41, e41⟩ := mac_st (k + 7) ha4 hb1 w32 v40
  obtain ⟨h50, l50, p50, k50, q50, m50, t50, x50, y50, u50, s50, w50, v50, e50⟩ := mac_st (k + 7) ha5 hb0 w41 z0
  have key := mul_tup e00 e01 e02 e03 e04 e05 e10 e11 e12 e13 e14 e20 e21 e22 e23 e30 e31 e32 e40 e41 e50 ⟨w00, w10, w20, w30, w40, w50⟩
  simp [F.wide_Int_Mul, F.wide_Int_Mul_l3, F.wide_Int_Mul_l7, nth, iw, x00, y00, u00, s00, x01, y01, u01, s01, x02, y02, u02, s02, x03, y03, u03, s03, x04, y04, u04, s04, x05, y05, u05, s05, x10, y10, u10, s10, x11, y11, u11, s11, x12, y12, u12, s12, x13, y13, u13, s13, x14, y14, u14, s14, x20, y20, u20, s20, x21, y21, u21, s21, x22, y22, u22, s22, x23, y23, u23, s23, x30, y30, u30, s30, x31, y31, u31, s31, x32, y32, u32, s32, x40, y40, u40, s40, x41, y41, u41, s41, x50, y50, u50, s50]
  exact key.symm
end Go.Proofs.Ytppdgohcgklinaa.Wide

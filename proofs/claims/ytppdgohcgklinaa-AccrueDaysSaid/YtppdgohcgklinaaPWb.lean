/- What package wide's functions answer: sums, differences, order. Conditions: words are uint64. -/
import Derived.Test.YtppdgohcgklinaaPWa
set_option linter.unusedVariables false
set_option linter.unusedSimpArgs false
namespace Go.Proofs.Ytppdgohcgklinaa.Wide
open Go Go.RowKit Go.Proofs.Ytppdgohcgklinaa.Vm
theorem add_tup {a0 a1 a2 a3 a4 a5 b0 b1 b2 b3 b4 b5 r0 r1 r2 r3 r4 r5 c1 c2 c3 c4 c5 c6 : Int} (ha : Words a0 a1 a2 a3 a4 a5) (hb : Words b0 b1 b2 b3 b4 b5) (e0 : r0 = (a0 + b0 + 0) % 18446744073709551616) (f0 : c1 = (a0 + b0 + 0) / 18446744073709551616) (e1 : r1 = (a1 + b1 + c1) % 18446744073709551616) (f1 : c2 = (a1 + b1 + c1) / 18446744073709551616) (e2 : r2 = (a2 + b2 + c2) % 18446744073709551616) (f2 : c3 = (a2 + b2 + c2) / 18446744073709551616) (e3 : r3 = (a3 + b3 + c3) % 18446744073709551616) (f3 : c4 = (a3 + b3 + c3) / 18446744073709551616) (e4 : r4 = (a4 + b4 + c4) % 18446744073709551616) (f4 : c5 = (a4 + b4 + c4) / 18446744073709551616) (e5 : r5 = (a5 + b5 + c5) % 18446744073709551616) (f5 : c6 = (a5 + b5 + c5) / 18446744073709551616) : tup ((val a0 a1 a2 a3 a4 a5 + val b0 b1 b2 b3 b4 b5) % TOP) = (r0, r1, r2, r3, r4, r5) := by
  unfold Words Word at ha hb
  have hr : Words r0 r1 r2 r3 r4 r5 := by unfold Words Word; omega
  have e : val a0 a1 a2 a3 a4 a5 + val b0 b1 b2 b3 b4 b5 = val r0 r1 r2 r3 r4 r5 + TOP * c6 := by unfold val TOP; omega
  have b := val_bd hr
  rw [e, Int.add_mul_emod_self_left, Int.emod_eq_of_lt b.1 b.2, tup_val hr]
theorem sub_tup {a0 a1 a2 a3 a4 a5 b0 b1 b2 b3 b4 b5 r0 r1 r2 r3 r4 r5 c1 c2 c3 c4 c5 c6 : Int} (ha : Words a0 a1 a2 a3 a4 a5) (hb : Words b0 b1 b2 b3 b4 b5) (e0 : r0 = (a0 - b0 - 0) % 18446744073709551616) (f0 : c1 = if a0 < b0 + 0 then 1 else 0) (e1 : r1 = (a1 - b1 - c1) % 18446744073709551616) (f1 : c2 = if a1 < b1 + c1 then 1 else 0) (e2 : r2 = (a2 - b2 - c2) % 18446744073709551616) (f2 : c3 = if a2 < b2 + c2 then 1 else 0) (e3 : r3 = (a3 - b3 - c3) % 18446744073709551616) (f3 : c4 = if a3 < b3 + c3 then 1 else 0) (e4 : r4 = (a4 - b4 - c4) % 18446744073709551616) (f4 : c5 = if a4 < b4 + c4 then 1 else 0) (e5 : r5 = (a5 - b5 - c5) % 18446744073709551616) (f5 : c6 = if a5 < b5 + c5 then 1 else 0) : tup ((val a0 a1 a2 a3 a4 a5 - val b0 b1 b2 b3 b4 b5) % TOP) = (r0, r1, r2, r3, r4, r5) := by
  unfold Words Word at ha hb
  have hr : Words r0 r1 r2 r3 r4 r5 := by unfold Words Word; omega
  have g0 : r0 = a0 - b0 + 18446744073709551616 * c1 ∧ 0 ≤ c1 ∧ c1 ≤ 1 := by rw [e0, f0]; split <;> omega
  have g1 : r1 = a1 - b1 - c1 + 18446744073709551616 * c2 ∧ 0 ≤ c2 ∧ c2 ≤ 1 := by rw [e1, f1]; split <;> omega
  have g2 : r2 = a2 - b2 - c2 + 18446744073709551616 * c3 ∧ 0 ≤ c3 ∧ c3 ≤ 1 := by rw [e2, f2]; split <;> omega
  have g3 : r3 = a3 - b3 - c3 + 18446744073709551616 * c4 ∧ 0 ≤ c4 ∧ c4 ≤ 1 := by rw [e3, f3]; split <;> omega
  have g4 : r4 = a4 - b4 - c4 + 18446744073709551616 * c5 ∧ 0 ≤ c5 ∧ c5 ≤ 1 := by rw [e4, f4]; split <;> omega
  have g5 : r5 = a5 - b5 - c5 + 18446744073709551616 * c6 ∧ 0 ≤ c6 ∧ c6 ≤ 1 := by rw [e5, f5]; split <;> omega
  have e : val a0 a1 a2 a3 a4 a5 - val b0 b1 b2 b3 b4 b5 = val r0 r1 r2 r3 r4 r5 + TOP * (-c6) := by unfold val TOP; omega
  have b := val_bd hr
  rw [e, Int.add_mul_emod_self_left, Int.emod_eq_of_lt b.1 b.2, tup_val hr]
theorem val_mul (a0 a1 a2 a3 a4 a5 V : Int) : val a0 a1 a2 a3 a4 a5 * V = a0 * V + 18446744073709551616 * (a1 * V + 18446744073709551616 * (a2 * V + 18446744073709551616 * (a3 * V + 18446744073709551616 * (a4 * V + 18446744073709551616 * (a5 * V))))) := by
  simp only [val, Int.add_mul, Int.mul_assoc]
theorem mul_val (a b0 b1 b2 b3 b4 b5 : Int) : a * val b0 b1 b2 b3 b4 b5 = a * b0 + 18446744073709551616 * (a * b1 + 18446744073709551616 * (a * b2 + 18446744073709551616 * (a * b3 + 18446744073709551616 * (a * b4 + 18446744073709551616 * (a * b5))))) := by
  simp only [val, Int.mul_add, Int.mul_left_comm a 18446744073709551616]
theorem row0 {p0 p1 p2 p3 p4 p5 q0 q1 q2 q3 q4 q5 t0 t1 t2 t3 t4 t5 c0 c1 c2 c3 c4 c5 : Int} (e0 : q0 + 18446744073709551616 * t0 = p0 + c0) (e1 : q1 + 18446744073709551616 * t1 = p1 + c1 + t0) (e2 : q2 + 18446744073709551616 * t2 = p2 + c2 + t1) (e3 : q3 + 18446744073709551616 * t3 = p3 + c3 + t2) (e4 : q4 + 18446744073709551616 * t4 = p4 + c4 + t3) (e5 : q5 + 18446744073709551616 * t5 = p5 + c5 + t4) : 1 * q0 + 18446744073709551616 * q1 + 340282366920938463463374607431768211456 * q2 + 6277101735386680763835789423207666416102355444464034512896 * q3 + 115792089237316195423570985008687907853269984665640564039457584007913129639936 * q4 + 2135987035920910082395021706169552114602704522356652769947041607822219725780640550022962086936576 * q5 + 39402006196394479212279040100143613805079739270465446667948293404245721771497210611414266254884915640806627990306816 * t5 = 1 * p0 + 18446744073709551616 * p1 + 340282366920938463463374607431768211456 * p2 + 6277101735386680763835789423207666416102355444464034512896 * p3 + 115792089237316195423570985008687907853269984665640564039457584007913129639936 * p4 + 2135987035920910082395021706169552114602704522356652769947041607822219725780640550022962086936576 * p5 + (1 * c0 + 18446744073709551616 * c1 + 340282366920938463463374607431768211456 * c2 + 6277101735386680763835789423207666416102355444464034512896 * c3 + 115792089237316195423570985008687907853269984665640564039457584007913129639936 * c4 + 2135987035920910082395021706169552114602704522356652769947041607822219725780640550022962086936576 * c5) := by omega
theorem row1 {p0 p1 p2 p3 p4 q0 q1 q2 q3 q4 t0 t1 t2 t3 t4 c0 c1 c2 c3 c4 : Int} (e0 : q0 + 18446744073709551616 * t0 = p0 + c0) (e1 : q1 + 18446744073709551616 * t1 = p1 + c1 + t0) (e2 : q2 + 18446744073709551616 * t2 = p2 + c2 + t1) (e3 : q3 + 18446744073709551616 * t3 = p3 + c3 + t2) (e4 : q4 + 18446744073709551616 * t4 = p4 + c4 + t3) : 1 * q0 + 18446744073709551616 * q1 + 340282366920938463463374607431768211456 * q2 + 6277101735386680763835789423207666416102355444464034512896 * q3 + 115792089237316195423570985008687907853269984665640564039457584007913129639936 * q4 + 2135987035920910082395021706169552114602704522356652769947041607822219725780640550022962086936576 * t4 = 1 * p0 + 18446744073709551616 * p1 + 340282366920938463463374607431768211456 * p2 + 6277101735386680763835789423207666416102355444464034512896 * p3 + 115792089237316195423570985008687907853269984665640564039457584007913129639936 * p4 + (1 * c0 + 18446744073709551616 * c1 + 340282366920938463463374607431768211456 * c2 + 6277101735386680763835789423207666416102355444464034512896 * c3 + 115792089237316195423570985008687907853269984665640564039457584007913129639936 * c4) := by omega
theorem row2 {p0 p1 p2 p3 q0 q1 q2 q3 t0 t1 t2 t3 c0 c1 c2 c3 : Int} (e0 : q0 + 18446744073709551616 * t0 = p0 + c0) (e1 : q1 + 18446744073709551616 * t1 = p1 + c1 + t0) (e2 : q2 + 18446744073709551616 * t2 = p2 + c2 + t1) (e3 : q3 + 18446744073709551616 * t3 = p3 + c3 + t2) : 1 * q0 + 18446744073709551616 * q1 + 340282366920938463463374607431768211456 * q2 + 6277101735386680763835789423207666416102355444464034512896 * q3 + 115792089237316195423570985008687907853269984665640564039457584007913129639936 * t3 = 1 * p0 + 18446744073709551616 * p1 + 340282366920938463463374607431768211456 * p2 + 6277101735386680763835789423207666416102355444464034512896 * p3 + (1 * c0 + 18446744073709551616 * c1 + 340282366920938463463374607431768211456 * c2 + 6277101735386680763835789423207666416102355444464034512896 * c3) := by omega
theorem row3 {p0 p1 p2 q0 q1 q2 t0 t1 t2 c0 c1 c2 : Int} (e0 : q0 + 18446744073709551616 * t0 = p0 + c0) (e1 : q1 + 18446744073709551616 * t1 = p1 + c1 + t0) (e2 : q2 + 18446744073709551616 * t2 = p2 + c2 + t1) : 1 * q0 + 18446744073709551616 * q1 + 340282366920938463463374607431768211456 * q2 + 6277101735386680763835789423207666416102355444464034512896 * t2 = 1 * p0 + 18446744073709551616 * p1 + 340282366920938463463374607431768211456 * p2 + (1 * c0 + 18446744073709551616 * c1 + 340282366920938463463374607431768211456 * c2) := by omega
theorem row4 {p0 p1 q0 q1 t0 t1 c0 c1 : Int} (e0 : q0 + 18446744073709551616 * t0 = p0 + c0) (e1 : q1 + 18446744073709551616 * t1 = p1 + c1 + t0) : 1 * q0 + 18446744073709551616 * q1 + 340282366920938463463374607431768211456 * t1 = 1 * p0 + 18446744073709551616 * p1 + (1 * c0 + 18446744073709551616 * c1) := by omega
theorem row5 {p0 q0 t0 c0 : Int} (e0 : q0 + 18446744073709551616 * t0 = p0 + c0) : 1 * q0 + 18446744073709551616 * t0 = 1 * p0 + (1 * c0) := by omega
theorem mul_tup {a0 a1 a2 a3 a4 a5 b0 b1 b2 b3 b4 b5 q00 t00 q01 t01 q02 t02 q03 t03 q04 t04 q05 t05 q10 t10 q11 t11 q12 t12 q13 t13 q14 t14 q20 t20 q21 t21 q22 t22 q23 t23 q30 t30 q31 t31 q32 t32 q40 t40 q41 t41 q50 t50 : Int} (e00 : q00 + 18446744073709551616 * t00 = a0 * b0 + 0 + 0) (e01 : q01 + 18446744073709551616 * t01 = a0 * b1 + 0 + t00) (e02 : q02 + 18446744073709551616 * t02 = a0 * b2 + 0 + t01) (e03 : q03 + 18446744073709551616 * t03 = a0 * b3 + 0 + t02) (e04 : q04 + 18446744073709551616 * t04 = a0 * b4 + 0 + t03) (e05 : q05 + 18446744073709551616 * t05 = a0 * b5 + 0 + t04) (e10 : q10 + 18446744073709551616 * t10 = a1 * b0 + q01 + 0) (e11 : q11 + 18446744073709551616 * t11 = a1 * b1 + q02 + t10) (e12 : q12 + 18446744073709551616 * t12 = a1 * b2 + q03 + t11) (e13 : q13 + 18446744073709551616 * t13 = a1 * b3 + q04 + t12) (e14 : q14 + 18446744073709551616 * t14 = a1 * b4 + q05 + t13) (e20 : q20 + 18446744073709551616 * t20 = a2 * b0 + q11 + 0) (e21 : q21 + 18446744073709551616 * t21 = a2 * b1 + q12 + t20) (e22 : q22 + 18446744073709551616 * t22 = a2 * b2 + q13 + t21) (e23 : q23 + 18446744073709551616 * t23 = a2 * b3 + q14 + t22) (e30 : q30 + 18446744073709551616 * t30 = a3 * b0 + q21 + 0) (e31 : q31 + 18446744073709551616 * t31 = a3 * b1 + q22 + t30) (e32 : q32 + 18446744073709551616 * t32 = a3 * b2 + q23 + t31) (e40 : q40 + 18446744073709551616 * t40 = a4 * b0 + q31 + 0) (e41 : q41 + 18446744073709551616 * t41 = a4 * b1 + q32 + t40) (e50 : q50 + 18446744073709551616 * t50 = a5 * b0 + q41 + 0) (hq : Words q00 q10 q20 q30 q40 q50) : tup (val a0 a1 a2 a3 a4 a5 * val b0 b1 b2 b3 b4 b5 % TOP) = (q00, q10, q20, q30, q40, q50) := by
  have R0 := row0 (show q00 + 18446744073709551616 * t00 = a0 * b0 + 0 by omega) (show q01 + 18446744073709551616 * t01 = a0 * b1 + 0 + t00 by omega) (show q02 + 18446744073709551616 * t02 = a0 * b2 + 0 + t01 by omega) (show q03 + 18446744073709551616 * t03 = a0 * b3 + 0 + t02 by omega) (show q04 + 18446744073709551616 * t04 = a0 * b4 + 0 + t03 by omega) (show q05 + 18446744073709551616 * t05 = a0 * b5 + 0 + t04 by omega)
  have R1 := row1 (show q10 + 18446744073709551616 * t10 = a1 * b0 + q01 by omega) (show q11 + 18446744073709551616 * t11 = a1 * b1 + q02 + t10 by omega) (show q12 + 18446744073709551616 * t12 = a1 * b2 + q03 + t11 by omega) (show q13 + 18446744073709551616 * t13 = a1 * b3 + q04 + t12 by omega) (show q14 + 18446744073709551616 * t14 = a1 * b4 + q05 + t13 by omega)
  have R2 := row2 (show q20 + 18446744073709551616 * t20 = a2 * b0 + q11 by omega) (show q21 + 18446744073709551616 * t21 = a2 * b1 + q12 + t20 by omega) (show q22 + 18446744073709551616 * t22 = a2 * b2 + q13 + t21 by omega) (show q23 + 18446744073709551616 * t23 = a2 * b3 + q14 + t22 by omega)
  have R3 := row3 (show q30 + 18446744073709551616 * t30 = a3 * b0 + q21 by omega) (show q31 + 18446744073709551616 * t31 = a3 * b1 + q22 + t30 by omega) (show q32 + 18446744073709551616 * t32 = a3 * b2 + q23 + t31 by omega)
  have R4 := row4 (show q40 + 18446744073709551616 * t40 = a4 * b0 + q31 by omega) (show q41 + 18446744073709551616 * t41 = a4 * b1 + q32 + t40 by omega)
  have R5 := row5 (show q50 + 18446744073709551616 * t50 = a5 * b0 + q41 by omega)
  clear e00 e01 e02 e03 e04 e05 e10 e11 e12 e13 e14 e20 e21 e22 e23 e30 e31 e32 e40 e41 e50
  have e : val a0 a1 a2 a3 a4 a5 * val b0 b1 b2 b3 b4 b5 = val q00 q10 q20 q30 q40 q50 + TOP * (t05 + t14 + t23 + t32 + t41 + t50 + 1 * (a1 * b5) + 1 * (a2 * b4) + 18446744073709551616 * (a2 * b5) + 1 * (a3 * b3) + 18446744073709551616 * (a3 * b4) + 340282366920938463463374607431768211456 * (a3 * b5) + 1 * (a4 * b2) + 18446744073709551616 * (a4 * b3) + 340282366920938463463374607431768211456 * (a4 * b4) + 6277101735386680763835789423207666416102355444464034512896 * (a4 * b5) + 1 * (a5 * b1) + 18446744073709551616 * (a5 * b2) + 340282366920938463463374607431768211456 * (a5 * b3) + 6277101735386680763835789423207666416102355444464034512896 * (a5 * b4) + 115792089237316195423570985008687907853269984665640564039457584007913129639936 * (a5 * b5)) := by
    rw [val_mul]
    simp only [mul_val]
    unfold TOP
    simp only [val]
    generalize a0 * b0 = z00 at *
    generalize a0 * b1 = z01 at *
    generalize a0 * b2 = z02 at *
    generalize a0 * b3 = z03 at *
    generalize a0 * b4 = z04 at *
    generalize a0 * b5 = z05 at *
    generalize a1 * b0 = z10 at *
    generalize a1 * b1 = z11 at *
    generalize a1 * b2 = z12 at *
    generalize a1 * b3 = z13 at *
    generalize a1 * b4 = z14 at *
    generalize a1 * b5 = z15 at *
    generalize a2 * b0 = z20 at *
    generalize a2 * b1 = z21 at *
    generalize a2 * b2 = z22 at *
    generalize a2 * b3 = z23 at *
    generalize a2 * b4 = z24 at *
    generalize a2 * b5 = z25 at *
    generalize a3 * b0 = z30 at *
    generalize a3 * b1 = z31 at *
    generalize a3 * b2 = z32 at *
    generalize a3 * b3 = z33 at *
    generalize a3 * b4 = z34 at *
    generalize a3 * b5 = z35 at *
    generalize a4 * b0 = z40 at *
    generalize a4 * b1 = z41 at *
    generalize a4 * b2 = z42 at *
    generalize a4 * b3 = z43 at *
    generalize a4 * b4 = z44 at *
    generalize a4 * b5 = z45 at *
    generalize a5 * b0 = z50 at *
    generalize a5 * b1 = z51 at *
    generalize a5 * b2 = z52 at *
    generalize a5 * b3 = z53 at *
    generalize a5 * b4 = z54 at *
    generalize a5 * b5 = z55 at *
    omega
  have b := val_bd hq
  rw [e, Int.add_mul_emod_self_left, Int.emod_eq_of_lt b.1 b.2, tup_val hq]
theorem lt_val {a0 a1 a2 a3 a4 a5 b0 b1 b2 b3 b4 b5 : Int} (ha : Words a0 a1 a2 a3 a4 a5) (hb : Words b0 b1 b2 b3 b4 b5) (h : (a5 < b5) ∨ (a5 = b5 ∧ a4 < b4) ∨ (a5 = b5 ∧ a4 = b4 ∧ a3 < b3) ∨ (a5 = b5 ∧ a4 = b4 ∧ a3 = b3 ∧ a2 < b2) ∨ (a5 = b5 ∧ a4 = b4 ∧ a3 = b3 ∧ a2 = b2 ∧ a1 < b1) ∨ (a5 = b5 ∧ a4 = b4 ∧ a3 = b3 ∧ a2 = b2 ∧ a1 = b1 ∧ a0 < b0)) : val a0 a1 a2 a3 a4 a5 < val b0 b1 b2 b3 b4 b5 := by
  unfold Words Word at ha hb
  unfold val
  omega
theorem blen_0 {a0 a1 a2 a3 a4 a5 : Int} (ha : Words a0 a1 a2 a3 a4 a5) (g1 : a1 = 0) (g2 : a2 = 0) (g3 : a3 = 0) (g4 : a4 = 0) (g5 : a5 = 0) (h0 : 0 < a0) : blen (val a0 a1 a2 a3 a4 a5) = 0 + blen a0 := by
  unfold Words Word at ha
  subst g1
  subst g2
  subst g3
  subst g4
  subst g5
  rw [show val a0 0 0 0 0 0 = a0 by unfold val; omega, Int.zero_add]
theorem blen_1 {a0 a1 a2 a3 a4 a5 : Int} (ha : Words a0 a1 a2 a3 a4 a5) (g2 : a2 = 0) (g3 : a3 = 0) (g4 : a4 = 0) (g5 : a5 = 0) (h0 : 0 < a1) : blen (val a0 a1 a2 a3 a4 a5) = 64 + blen a1 := by
  unfold Words Word at ha
  subst g2
  subst g3
  subst g4
  subst g5
  have q : val a0 a1 0 0 0 0 / 18446744073709551616 = a1 := by unfold val; omega
  have l : (2 : Int) ^ 64 ≤ val a0 a1 0 0 0 0 := by rw [show (2 : Int) ^ 64 = 18446744073709551616 from by decide]; unfold val; omega
  have s := blen_shift 64 l
  rw [show (2 : Int) ^ 64 = 18446744073709551616 from by decide, q] at s
  rw [s]; rfl
theorem blen_2 {a0 a1 a2 a3 a4 a5 : Int} (ha : Words a0 a1 a2 a3 a4 a5) (g3 : a3 = 0) (g4 : a4 = 0) (g5 : a5 = 0) (h0 : 0 < a2) : blen (val a0 a1 a2 a3 a4 a5) = 128 + blen a2 := by
  unfold Words Word at ha
  subst g3
  subst g4
  subst g5
  have q : val a0 a1 a2 0 0 0 / 340282366920938463463374607431768211456 = a2 := by unfold val; omega
  have l : (2 : Int) ^ 128 ≤ val a0 a1 a2 0 0 0 := by rw [show (2 : Int) ^ 128 = 340282366920938463463374607431768211456 from by decide]; unfold val; omega
  have s := blen_shift 128 l
  rw [show (2 : Int) ^ 128 = 340282366920938463463374607431768211456 from by decide, q] at s
  rw [s]; rfl
theorem blen_3 {a0 a1 a2 a3 a4 a5 : Int} (ha : Words a0 a1 a2 a3 a4 a5) (g4 : a4 = 0) (g5 : a5 = 0) (h0 : 0 < a3) : blen (val a0 a1 a2 a3 a4 a5) = 192 + blen a3 := by
  unfold Words Word at ha
  subst g4
  subst g5
  have q : val a0 a1 a2 a3 0 0 / 6277101735386680763835789423207666416102355444464034512896 = a3 := by unfold val; omega
  have l : (2 : Int) ^ 192 ≤ val a0 a1 a2 a3 0 0 := by rw [show (2 : Int) ^ 192 = 6277101735386680763835789423207666416102355444464034512896 from by decide]; unfold val; omega
  have s := blen_shift 192 l
  rw [show (2 : Int) ^ 192 = 6277101735386680763835789423207666416102355444464034512896 from by decide, q] at s
  rw [s]; rfl
theorem blen_4 {a0 a1 a2 a3 a4 a5 : Int} (ha : Words a0 a1 a2 a3 a4 a5) (g5 : a5 = 0) (h0 : 0 < a4) : blen (val a0 a1 a2 a3 a4 a5) = 256 + blen a4 := by
  unfold Words Word at ha
  subst g5
  have q : val a0 a1 a2 a3 a4 0 / 115792089237316195423570985008687907853269984665640564039457584007913129639936 = a4 := by unfold val; omega
  have l : (2 : Int) ^ 256 ≤ val a0 a1 a2 a3 a4 0 := by rw [show (2 : Int) ^ 256 = 115792089237316195423570985008687907853269984665640564039457584007913129639936 from by decide]; unfold val; omega
  have s := blen_shift 256 l
  rw [show (2 : Int) ^ 256 = 115792089237316195423570985008687907853269984665640564039457584007913129639936 from by decide, q] at s
  rw [s]; rfl
theorem blen_5 {a0 a1 a2 a3 a4 a5 : Int} (ha : Words a0 a1 a2 a3 a4 a5)  (h0 : 0 < a5) : blen (val a0 a1 a2 a3 a4 a5) = 320 + blen a5 := by
  unfold Words Word at ha
  have q : val a0 a1 a2 a3 a4 a5 / 2135987035920910082395021706169552114602704522356652769947041607822219725780640550022962086936576 = a5 := by unfold val; omega
  have l : (2 : Int) ^ 320 ≤ val a0 a1 a2 a3 a4 a5 := by rw [show (2 : Int) ^ 320 = 2135987035920910082395021706169552114602704522356652769947041607822219725780640550022962086936576 from (Int.pow_add 2 160 160).trans (by decide)]; unfold val; omega
  have s := blen_shift 320 l
  rw [show (2 : Int) ^ 320 = 2135987035920910082395021706169552114602704522356652769947041607822219725780640550022962086936576 from (Int.pow_add 2 160 160).trans (by decide), q] at s
  rw [s]; rfl
theorem left_tup0 {a0 a1 a2 a3 a4 a5 S l0 l1 l2 l3 l4 l5 h0 h1 h2 h3 h4 h5 : Int} (ha : Words a0 a1 a2 a3 a4 a5) (e0 : a0 * S = l0 + 18446744073709551616 * h0) (e1 : a1 * S = l1 + 18446744073709551616 * h1) (e2 : a2 * S = l2 + 18446744073709551616 * h2) (e3 : a3 * S = l3 + 18446744073709551616 * h3) (e4 : a4 * S = l4 + 18446744073709551616 * h4) (e5 : a5 * S = l5 + 18446744073709551616 * h5) (hq : Words l0 (l1 + h0) (l2 + h1) (l3 + h2) (l4 + h3) (l5 + h4)) : tup (val a0 a1 a2 a3 a4 a5 * (1 * S) % TOP) = (l0, (l1 + h0), (l2 + h1), (l3 + h2), (l4 + h3), (l5 + h4)) := by
  have e : val a0 a1 a2 a3 a4 a5 * (1 * S) = val l0 (l1 + h0) (l2 + h1) (l3 + h2) (l4 + h3) (l5 + h4) + TOP * (h5) := by
    rw [Int.mul_left_comm, val_mul, e0, e1, e2, e3, e4, e5]
    unfold TOP val
    omega
  have b := val_bd hq
  rw [e, Int.add_mul_emod_self_left, Int.emod_eq_of_lt b.1 b.2, tup_val hq]
theorem left_tup1 {a0 a1 a2 a3 a4 a5 S l0 l1 l2 l3 l4 l5 h0 h1 h2 h3 h4 h5 : Int} (ha : Words a0 a1 a2 a3 a4 a5) (e0 : a0 * S = l0 + 18446744073709551616 * h0) (e1 : a1 * S = l1 + 18446744073709551616 * h1) (e2 : a2 * S = l2 + 18446744073709551616 * h2) (e3 : a3 * S = l3 + 18446744073709551616 * h3) (e4 : a4 * S = l4 + 18446744073709551616 * h4) (e5 : a5 * S = l5 + 18446744073709551616 * h5) (hq : Words 0 l0 (l1 + h0) (l2 + h1) (l3 + h2) (l4 + h3)) : tup (val a0 a1 a2 a3 a4 a5 * (18446744073709551616 * S) % TOP) = (0, l0, (l1 + h0), (l2 + h1), (l3 + h2), (l4 + h3)) := by
  have e : val a0 a1 a2 a3 a4 a5 * (18446744073709551616 * S) = val 0 l0 (l1 + h0) (l2 + h1) (l3 + h2) (l4 + h3) + TOP * (1 * (l5 + h4) + 18446744073709551616 * h5) := by
    rw [Int.mul_left_comm, val_mul, e0, e1, e2, e3, e4, e5]
    unfold TOP val
    omega
  have b := val_bd hq
  rw [e, Int.add_mul_emod_self_left, Int.emod_eq_of_lt b.1 b.2, tup_val hq]
theorem left_tup2 {a0 a1 a2 a3 a4 a5 S l0 l1 l2 l3 l4 l5 h0 h1 h2 h3 h4 h5 : Int} (ha : Words a0 a1 a2 a3 a4 a5) (e0 : a0 * S = l0 + 18446744073709551616 * h0) (e1 : a1 * S = l1 + 18446744073709551616 * h1) (e2 : a2 * S = l2 + 18446744073709551616 * h2) (e3 : a3 * S = l3 + 18446744073709551616 * h3) (e4 : a4 * S = l4 + 18446744073709551616 * h4) (e5 : a5 * S = l5 + 18446744073709551616 * h5) (hq : Words 0 0 l0 (l1 + h0) (l2 + h1) (l3 + h2)) : tup (val a0 a1 a2 a3 a4 a5 * (340282366920938463463374607431768211456 * S) % TOP) = (0, 0, l0, (l1 + h0), (l2 + h1), (l3 + h2)) := by
  have e : val a0 a1 a2 a3 a4 a5 * (340282366920938463463374607431768211456 * S) = val 0 0 l0 (l1 + h0) (l2 + h1) (l3 + h2) + TOP * (1 * (l4 + h3) + 18446744073709551616 * (l5 + h4) + 340282366920938463463374607431768211456 * h5) := by
    rw [Int.mul_left_comm, val_mul, e0, e1, e2, e3, e4, e5]
    unfold TOP val
    omega
  have b := val_bd hq
  rw [e, Int.add_mul_emod_self_left, Int.emod_eq_of_lt b.1 b.2, tup_val hq]
theorem left_tup3 {a0 a1 a2 a3 a4 a5 S l0 l1 l2 l3 l4 l5 h0 h1 h2 h3 h4 h5 : Int} (ha : Words a0 a1 a2 a3 a4 a5) (e0 : a0 * S = l0 + 18446744073709551616 * h0) (e1 : a1 * S = l1 + 18446744073709551616 * h1) (e2 : a2 * S = l2 + 18446744073709551616 * h2) (e3 : a3 * S = l3 + 18446744073709551616 * h3) (e4 : a4 * S = l4 + 18446744073709551616 * h4) (e5 : a5 * S = l5 + 18446744073709551616 * h5) (hq : Words 0 0 0 l0 (l1 + h0) (l2 + h1)) : tup (val a0 a1 a2 a3 a4 a5 * (6277101735386680763835789423207666416102355444464034512896 * S) % TOP) = (0, 0, 0, l0, (l1 + h0), (l2 + h1)) := by
  have e : val a0 a1 a2 a3 a4 a5 * (6277101735386680763835789423207666416102355444464034512896 * S) = val 0 0 0 l0 (l1 + h0) (l2 + h1) + TOP * (1 * (l3 + h2) + 18446744073709551616 * (l4 + h3) + 340282366920938463463374607431768211456 * (l5 + h4) + 6277101735386680763835789423207666416102355444464034512896 * h5) := by
    rw [Int.mul_left_comm, val_mul, e0, e1, e2, e3, e4, e5]
    unfold TOP val
    omega
  have b := val_bd hq
  rw [e, Int.add_mul_emod_self_left, Int.emod_eq_of_lt b.1 b.2, tup_val hq]
theorem left_tup4 {a0 a1 a2 a3 a4 a5 S l0 l1 l2 l3 l4 l5 h0 h1 h2 h3 h4 h5 : Int} (ha : Words a0 a1 a2 a3 a4 a5) (e0 : a0 * S = l0 + 18446744073709551616 * h0) (e1 : a1 * S = l1 + 18446744073709551616 * h1) (e2 : a2 * S = l2 + 18446744073709551616 * h2) (e3 : a3 * S = l3 + 18446744073709551616 * h3) (e4 : a4 * S = l4 + 18446744073709551616 * h4) (e5 : a5 * S = l5 + 18446744073709551616 * h5) (hq : Words 0 0 0 0 l0 (l1 + h0)) : tup (val a0 a1 a2 a3 a4 a5 * (115792089237316195423570985008687907853269984665640564039457584007913129639936 * S) % TOP) = (0, 0, 0, 0, l0, (l1 + h0)) := by
  have e : val a0 a1 a2 a3 a4 a5 * (115792089237316195423570985008687907853269984665640564039457584007913129639936 * S) = val 0 0 0 0 l0 (l1 + h0) + TOP * (1 * (l2 + h1) + 18446744073709551616 * (l3 + h2) + 340282366920938463463374607431768211456 * (l4 + h3) + 6277101735386680763835789423207666416102355444464034512896 * (l5 + h4) + 115792089237316195423570985008687907853269984665640564039457584007913129639936 * h5) := by
    rw [Int.mul_left_comm, val_mul, e0, e1, e2, e3, e4, e5]
    unfold TOP val
    omega
  have b := val_bd hq
  rw [e, Int.add_mul_emod_self_left, Int.emod_eq_of_lt b.1 b.2, tup_val hq]
theorem left_tup5 {a0 a1 a2 a3 a4 a5 S l0 l1 l2 l3 l4 l5 h0 h1 h2 h3 h4 h5 : Int} (ha : Words a0 a1 a2 a3 a4 a5) (e0 : a0 * S = l0 + 18446744073709551616 * h0) (e1 : a1 * S = l1 + 18446744073709551616 * h1) (e2 : a2 * S = l2 + 18446744073709551616 * h2) (e3 : a3 * S = l3 + 18446744073709551616 * h3) (e4 : a4 * S = l4 + 18446744073709551616 * h4) (e5 : a5 * S = l5 + 18446744073709551616 * h5) (hq : Words 0 0 0 0 0 l0) : tup (val a0 a1 a2 a3 a4 a5 * (2135987035920910082395021706169552114602704522356652769947041607822219725780640550022962086936576 * S) % TOP) = (0, 0, 0, 0, 0, l0) := by
  have e : val a0 a1 a2 a3 a4 a5 * (2135987035920910082395021706169552114602704522356652769947041607822219725780640550022962086936576 * S) = val 0 0 0 0 0 l0 + TOP * (1 * (l1 + h0) + 18446744073709551616 * (l2 + h1) + 340282366920938463463374607431768211456 * (l3 + h2) + 6277101735386680763835789423207666416102355444464034512896 * (l4 + h3) + 115792089237316195423570985008687907853269984665640564039457584007913129639936 * (l5 + h4) + 2135987035920910082395021706169552114602704522356652769947041607822219725780640550022962086936576 * h5) := by
    rw [Int.mul_left_comm, val_mul, e0, e1, e2, e3, e4, e5]
    unfold TOP val
    omega
  have b := val_bd hq
  rw [e, Int.add_mul_emod_self_left, Int.emod_eq_of_lt b.1 b.2, tup_val hq]
theorem add_st {x y c : Int} (hx : Word x) (hy : Word y) (hc : 0 ≤ c ∧ c ≤ 1) : ∃ r k, add64 x y c = some (r, k) ∧ r = (x + y + c) % 18446744073709551616 ∧ k = (x + y + c) / 18446744073709551616 ∧ (0 ≤ k ∧ k ≤ 1) := by
  unfold Word at hx hy
  refine ⟨_, _, ?_, rfl, rfl, by omega⟩
  unfold add64
  rw [if_pos (by simp; omega)]
theorem sub_st {x y c : Int} (hx : Word x) (hy : Word y) (hc : 0 ≤ c ∧ c ≤ 1) : ∃ r k, sub64 x y c = some (r, k) ∧ r = (x - y - c) % 18446744073709551616 ∧ (k = if x < y + c then 1 else 0) ∧ (0 ≤ k ∧ k ≤ 1) := by
  unfold Word at hx hy
  refine ⟨_, _, ?_, rfl, rfl, by split <;> omega⟩
  unfold sub64
  rw [if_pos (by simp [m64]; omega)]
set_option maxRecDepth 10000 in
theorem add_ok {K : Nat} (hK : 7 ≤ K) {a0 a1 a2 a3 a4 a5 b0 b1 b2 b3 b4 b5 : Int} (ha : Words a0 a1 a2 a3 a4 a5) (hb : Words b0 b1 b2 b3 b4 b5) :
    F.wide_Int_Add K a0 a1 a2 a3 a4 a5 b0 b1 b2 b3 b4 b5 = some (tup ((val a0 a1 a2 a3 a4 a5 + val b0 b1 b2 b3 b4 b5) % TOP)) := by
  obtain ⟨k, rfl⟩ : ∃ k, K = k + 7 := ⟨K - 7, by omega⟩
  obtain ⟨ha0, ha1, ha2, ha3, ha4, ha5⟩ := id ha
  obtain ⟨hb0, hb1, hb2, hb3, hb4, hb5⟩ := id hb
  obtain ⟨r0, c1, e0, p0, q0, g1⟩ := add_st ha0 hb0 (c := 0) (by decide)
  obtain ⟨r1, c2, e1, p1, q1, g2⟩ := add_st ha1 hb1 g1
  obtain ⟨r2, c3, e2, p2, q2, g3⟩ := add_st ha2 hb2 g2
  obtain ⟨r3, c4, e3, p3, q3, g4⟩ := add_st ha3 hb3 g3
  obtain ⟨r4, c5, e4, p4, q4, g5⟩ := add_st ha4 hb4 g4
  obtain ⟨r5, c6, e5, p5, q5, g6⟩ := add_st ha5 hb5 g5
  have key := add_tup ha hb p0 q0 p1 q1 p2 q2 p3 q3 p4 q4 p5 q5
  simp [F.wide_Int_Add, F.wide_Int_Add_l3, nth, e0, e1, e2, e3, e4, e5, iw]
  exact key.symm
set_option maxRecDepth 10000 in
theorem sub_ok {K : Nat} (hK : 7 ≤ K) {a0 a1 a2 a3 a4 a5 b0 b1 b2 b3 b4 b5 : Int} (ha : Words a0 a1 a2 a3 a4 a5) (hb : Words b0 b1 b2 b3 b4 b5) :
    F.wide_Int_Sub K a0 a1 a2 a3 a4 a5 b0 b1 b2 b3 b4 b5 = some (tup ((val a0 a1 a2 a3 a4 a5 - val b0 b1 b2 b3 b4 b5) % TOP)) := by
  obtain ⟨k, rfl⟩ : ∃ k, K = k + 7 := ⟨K - 7, by omega⟩
  obtain ⟨ha0, ha1, ha2, ha3, ha4, ha5⟩ := id ha
  obtain ⟨hb0, hb1, hb2, hb3, hb4, hb5⟩ := id hb
  obtain ⟨r0, c1, e0, p0, q0, g1⟩ := sub_st ha0 hb0 (c := 0) (by decide)
  obtain ⟨r1, c2, e1, p1, q1, g2⟩ := sub_st ha1 hb1 g1
  obtain ⟨r2, c3, e2, p2, q2, g3⟩ := sub_st ha2 hb2 g2
  obtain ⟨r3, c4, e3, p3, q3, g4⟩ := sub_st ha3 hb3 g3
  obtain ⟨r4, c5, e4, p4, q4, g5⟩ := sub_st ha4 hb4 g4
  obtain ⟨r5, c6, e5, p5, q5, g6⟩ := sub_st ha5 hb5 g5
  have key := sub_tup ha hb p0 q0 p1 q1 p2 q2 p3 q3 p4 q4 p5 q5
  simp [F.wide_Int_Sub, F.wide_Int_Sub_l3, nth, e0, e1, e2, e3, e4, e5, iw]
  exact key.symm
/-- The order of two numbers. -/
def cmp3 (x y : Int) : Int := if x < y then -1 else if y < x then 1 else 0
set_option maxRecDepth 10000 in
theorem cmp_ok {K : Nat} (hK : 7 ≤ K) {a0 a1 a2 a3 a4 a5 b0 b1 b2 b3 b4 b5 : Int} (ha : Words a0 a1 a2 a3 a4 a5) (hb : Words b0 b1 b2 b3 b4 b5) :
    F.wide_Int_Cmp K a0 a1 a2 a3 a4 a5 b0 b1 b2 b3 b4 b5 = some (cmp3 (val a0 a1 a2 a3 a4 a5) (val b0 b1 b2 b3 b4 b5)) := by
  obtain ⟨k, rfl⟩ : ∃ k, K = k + 7 := ⟨K - 7, by omega⟩
  have L := lt_val ha hb
  have G := lt_val hb ha
  rcases Int.lt_trichotomy a5 b5 with h5 | h5 | h5
  · rw [cmp3, if_pos (L (by omega))]; simp [F.wide_Int_Cmp, F.wide_Int_Cmp_l2, nth, casO, iw, h5]
  rotate_left
  · have h5' : ¬ a5 < b5 := by omega
    rw [cmp3, if_neg (by have := G (by omega); omega), if_pos (G (by omega))]; simp [F.wide_Int_Cmp, F.wide_Int_Cmp_l2, nth, casO, iw, h5, h5']
  subst h5
  rcases Int.lt_trichotomy a4 b4 with h4 | h4 | h4
  · rw [cmp3, if_pos (L (by omega))]; simp [F.wide_Int_Cmp, F.wide_Int_Cmp_l2, nth, casO, iw, h4]
  rotate_left
  · have h4' : ¬ a4 < b4 := by omega
    rw [cmp3, if_neg (by have := G (by omega); omega), if_pos (G (by omega))]; simp [F.wide_Int_Cmp, F.wide_Int_Cmp_l2, nth, casO, iw, h4, h4']
  subst h4
  rcases Int.lt_trichotomy a3 b3 with h3 | h3 | h3
  · rw [cmp3, if_pos (L (by omega))]; simp [F.wide_Int_Cmp, F.wide_Int_Cmp_l2, nth, casO, iw, h3]
  rotate_left
  · have h3' : ¬ a3 < b3 := by omega
    rw [cmp3, if_neg (by have := G (by omega); omega), if_pos (G (by omega))]; simp [F.wide_Int_Cmp, F.wide_Int_Cmp_l2, nth, casO, iw, h3, h3']
  subst h3
  rcases Int.lt_trichotomy a2 b2 with h2 | h2 | h2
  · rw [cmp3, if_pos (L (by omega))]; simp [F.wide_Int_Cmp, F.wide_Int_Cmp_l2, nth, casO, iw, h2]
  rotate_left
  · have h2' : ¬ a2 < b2 := by omega
    rw [cmp3, if_neg (by have := G (by omega); omega), if_pos (G (by omega))]; simp [F.wide_Int_Cmp, F.wide_Int_Cmp_l2, nth, casO, iw, h2, h2']
  subst h2
  rcases Int.lt_trichotomy a1 b1 with h1 | h1 | h1
  · rw [cmp3, if_pos (L (by omega))]; simp [F.wide_Int_Cmp, F.wide_Int_Cmp_l2, nth, casO, iw, h1]
  rotate_left
  · have h1' : ¬ a1 < b1 := by omega
    rw [cmp3, if_neg (by have := G (by omega); omega), if_pos (G (by omega))]; simp [F.wide_Int_Cmp, F.wide_Int_Cmp_l2, nth, casO, iw, h1, h1']
  subst h1
  rcases Int.lt_trichotomy a0 b0 with h0 | h0 | h0
  · rw [cmp3, if_pos (L (by omega))]; simp [F.wide_Int_Cmp, F.wide_Int_Cmp_l2, nth, casO, iw, h0]
  rotate_left
  · have h0' : ¬ a0 < b0 := by omega
    rw [cmp3, if_neg (by have := G (by omega); omega), if_pos (G (by omega))]; simp [F.wide_Int_Cmp, F.wide_Int_Cmp_l2, nth, casO, iw, h0, h0']
  subst h0
  rw [cmp3, if_neg (by omega), if_neg (by omega)]; simp [F.wide_Int_Cmp, F.wide_Int_Cmp_l2, nth, casO, iw]
end Go.Proofs.Ytppdgohcgklinaa.Wide

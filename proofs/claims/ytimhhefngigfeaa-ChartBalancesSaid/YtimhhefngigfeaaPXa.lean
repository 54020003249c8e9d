/- Several of my texts in one: plain facts about the printed functions. Conditions: none here. -/
import Derived.Test.YtimhhefngigfeaaPWa
import Derived.Test.YtimhhefngigfeaaFB
set_option linter.unusedVariables false
set_option linter.unusedSimpArgs false
namespace Go.Proofs.Ytimhhefngigfeaa.Wide
open Go Go.RowKit Go.Proofs.Ytimhhefngigfeaa.Vm
theorem add_tup {a0 a1 a2 a3 a4 a5 b0 b1 b2 b3 b4 b5 r0 r1 r2 r3 r4 r5 c1 c2 c3 c4 c5 c6 : Int} (ha : Words a0 a1 a2 a3 a4 a5) (hb : Words b0 b1 b2 b3 b4 b5) (e0 : r0 = (a0 + b0 + 0) % 18446744073709551616) (f0 : c1 = (a0 + b0 + 0) / 18446744073709551616) (e1 : r1 = (a1 + b1 + c1) % 18446744073709551616) (f1 : c2 = (a1 + b1 + c1) / 18446744073709551616) (e2 : r2 = (a2 + b2 + c2) % 18446744073709551616) (f2 : c3 = (a2 + b2 + c2) / 18446744073709551616) (e3 : r3 = (a3 + b3 + c3) % 18446744073709551616) (f3 : c4 = (a3 + b3 + c3) / 18446744073709551616) (e4 : r4 = (a4 + b4 + c4) % 18446744073709551616) (f4 : c5 = (a4 + b4 + c4) / 18446744073709551616) (e5 : r5 = (a5 + b5 + c5) % 18446744073709551616) (f5 : c6 = (a5 + b5 + c5) / 18446744073709551616) : tup ((val a0 a1 a2 a3 a4 a5 + val b0 b1 b2 b3 b4 b5) % TOP) = (r0, r1, r2, r3, r4, r5) := by
  unfold Words Word at ha hb
  have hr : Words r0 r1 r2 r3 r4 r5 := by unfold Words Word; omega
  have e : val a0 a1 a2 a3 a4 a5 + val b0 b1 b2 b3 b4 b5 = val r0 r1 r2 r3 r4 r5 + TOP * c6 := by unfold val TOP; omega
  have b := val_bd hr
  rw [e, Int.add_mul_emod_self_left, Int.emod_eq_of_lt b.1 b.2, tup_val hr]
theorem sub_tup {a0 a1 a2 a3 a4 a5 b0 b1 b2 b3 b4 b5 r0 r1 r2 r3 r4 r5 c1 c2 c3 c4 c5 c6 : Int} (ha : Words a0 a1 a2 a3 a4 a5) (hb : Words b0 b1 b2 b3 b4 b5) (e0 : r0 = (a0 - b0 - 0) % 18446744073709551616) (f0 : c1 = if a0 < b0 + 0 then 1 else 0) (e1 : r1 = (a1 - b1 - c1) % 18446744073709551616) (f1 : c2 = if a1 < b1 + c1 then 1 else 0) (e2 : r2 = (a2 - b2 - c2) % 18446744073709551616) (f2 : c3 = if a2 < b2 + c2 then 1 else 0) (e3 : r3 = (a3 - b3 - c3) % 18446744073709551616) (f3 : c4 = if a3 < b3 + c3 then 1 else 0) (e4 : r4 = (a4 - b4 - c4) % 18446744073709551616) (f4 : c5 = if a4 < b4 + c4 then 1 else 0) (e5 : r5 = (a5 - b5 - c5) % 18446744073709551616) (f5 : c6 = if a5 < b5 + c5 then 1 else 0) : tup ((val a0 a1 a2 a3 a4 a5 - val b0 b1 b2 b3 b4 b5) % TOP) = (r0, r1, r2, r3, r4, r5) := by
  unfold Words Word at ha hb
  have hr : Words r0 r1 r2 r3 r4 r5 := by unfold Words Word; omega
  have g0 : r0 = a0 - b0 + 18446744073709551616 * c1 ∧ 0 ≤ c1 ∧ c1 ≤ 1 := by rw [e0, f0]; split <;> omega
  have g1 : r1 = a1 - b1 - c1 + 18446744073709551616 * c2 ∧ 0 ≤ c2 ∧ c2 ≤ 1 := by rw [e1, f1]; split <;> omega
  have g2 : r2 = a2 - b2 - c2 + 18446744073709551616 * c3 ∧ 0 ≤ c3 ∧ c3 ≤ 1 := by rw [e2, f2]; split <;> omega
  have g3 : r3 = a3 - b3 - c3 + 18446744073709551616 * c4 ∧ 0 ≤ c4 ∧ c4 ≤ 1 := by rw [e3, f3]; split <;> omega
  have g4 : r4 = a4 - b4 - c4 + 18446744073709551616 * c5 ∧ 0 ≤ c5 ∧ c5 ≤ 1 := by rw [e4, f4]; split <;> omega
  have g5 : r5 = a5 - b5 - c5 + 18446744073709551616 * c6 ∧ 0 ≤ c6 ∧ c6 ≤ 1 := by rw [e5, f5]; split <;> omega
  have e : val a0 a1 a2 a3 a4 a5 - val b0 b1 b2 b3 b4 b5 = val r0 r1 r2 r3 r4 r5 + TOP * (-c6) := by unfold val TOP; omega
  have b := val_bd hr
  rw [e, Int.add_mul_emod_self_left, Int.emod_eq_of_lt b.1 b.2, tup_val hr]
theorem val_mul (a0 a1 a2 a3 a4 a5 V : Int) : val a0 a1 a2 a3 a4 a5 * V = a0 * V + 18446744073709551616 * (a1 * V + 18446744073709551616 * (a2 * V + 18446744073709551616 * (a3 * V + 18446744073709551616 * (a4 * V + 18446744073709551616 * (a5 * V))))) := by
  simp only [val, Int.add_mul, Int.mul_assoc]
theorem mul_val (a b0 b1 b2 b3 b4 b5 : Int) : a * val b0 b1 b2 b3 b4 b5 = a * b0 + 18446744073709551616 * (a * b1 + 18446744073709551616 * (a * b2 + 18446744073709551616 * (a * b3 + 18446744073709551616 * (a * b4 + 18446744073709551616 * (a * b5))))) := by
  simp only [val, Int.mul_add, Int.mul_left_comm a 18446744073709551616]
theorem row0 {p0 p1 p2 p3 p4 p5 q0 q1 q2 q3 q4 q5 t0 t1 t2 t3 t4 t5 c0 c1 c2 c3 c4 c5 : Int} (e0 : q0 + 18446744073709551616 * t0 = p0 + c0) (e1 : q1 + 18446744073709551616 * t1 = p1 + c1 + t0) (e2 : q2 + 18446744073709551616 * t2 = p2 + c2 + t1) (e3 : q3 + 18446744073709551616 * t3 = p3 + c3 + t2) (e4 : q4 + 18446744073709551616 * t4 = p4 + c4 + t3) (e5 : q5 + 18446744073709551616 * t5 = p5 + c5 + t4) : 1 * q0 + 18446744073709551616 * q1 + 340282366920938463463374607431768211456 * q2 + 6277101735386680763835789423207666416102355444464034512896 * q3 + 115792089237316195423570985008687907853269984665640564039457584007913129639936 * q4 + 2135987035920910082395021706169552114602704522356652769947041607822219725780640550022962086936576 * q5 + 39402006196394479212279040100143613805079739270465446667948293404245721771497210611414266254884915640806627990306816 * t5 = 1 * p0 + 18446744073709551616 * p1 + 340282366920938463463374607431768211456 * p2 + 6277101735386680763835789423207666416102355444464034512896 * p3 + 115792089237316195423570985008687907853269984665640564039457584007913129639936 * p4 + 2135987035920910082395021706169552114602704522356652769947041607822219725780640550022962086936576 * p5 + (1 * c0 + 18446744073709551616 * c1 + 340282366920938463463374607431768211456 * c2 + 6277101735386680763835789423207666416102355444464034512896 * c3 + 115792089237316195423570985008687907853269984665640564039457584007913129639936 * c4 + 2135987035920910082395021706169552114602704522356652769947041607822219725780640550022962086936576 * c5) := by omega
theorem row1 {p0 p1 p2 p3 p4 q0 q1 q2 q3 q4 t0 t1 t2 t3 t4 c0 c1 c2 c3 c4 : Int} (e0 : q0 + 18446744073709551616 * t0 = p0 + c0) (e1 : q1 + 18446744073709551616 * t1 = p1 + c1 + t0) (e2 : q2 + 18446744073709551616 * t2 = p2 + c2 + t1) (e3 : q3 + 18446744073709551616 * t3 = p3 + c3 + t2) (e4 : q4 + 18446744073709551616 * t4 = p4 + c4 + t3) : 1 * q0 + 18446744073709551616 * q1 + 340282366920938463463374607431768211456 * q2 + 6277101735386680763835789423207666416102355444464034512896 * q3 + 115792089237316195423570985008687907853269984665640564039457584007913129639936 * q4 + 2135987035920910082395021706169552114602704522356652769947041607822219725780640550022962086936576 * t4 = 1 * p0 + 18446744073709551616 * p1 + 340282366920938463463374607431768211456 * p2 + 6277101735386680763835789423207666416102355444464034512896 * p3 + 115792089237316195423570985008687907853269984665640564039457584007913129639936 * p4 + (1 * c0 + 18446744073709551616 * c1 + 340282366920938463463374607431768211456 * c2 + 6277101735386680763835789423207666416102355444464034512896 * c3 + 115792089237316195423570985008687907853269984665640564039457584007913129639936 * c4) := by omega
theorem row2 {p0 p1 p2 p3 q0 q1 q2 q3 t0 t1 t2 t3 c0 c1 c2 c3 : Int} (e0 : q0 + 18446744073709551616 * t0 = p0 + c0) (e1 : q1 + 18446744073709551616 * t1 = p1 + c1 + t0) (e2 : q2 + 18446744073709551616 * t2 = p2 + c2 + t1) (e3 : q3 + 18446744073709551616 * t3 = p3 + c3 + t2) : 1 * q0 + 18446744073709551616 * q1 + 340282366920938463463374607431768211456 * q2 + 6277101735386680763835789423207666416102355444464034512896 * q3 + 115792089237316195423570985008687907853269984665640564039457584007913129639936 * t3 = 1 * p0 + 18446744073709551616 * p1 + 340282366920938463463374607431768211456 * p2 + 6277101735386680763835789423207666416102355444464034512896 * p3 + (1 * c0 + 18446744073709551616 * c1 + 340282366920938463463374607431768211456 * c2 + 6277101735386680763835789423207666416102355444464034512896 * c3) := by omega
theorem row3 {p0 p1 p2 q0 q1 q2 t0 t1 t2 c0 c1 c2 : Int} (e0 : q0 + 18446744073709551616 * t0 = p0 + c0) (e1 : q1 + 18446744073709551616 * t1 = p1 + c1 + t0) (e2 : q2 + 18446744073709551616 * t2 = p2 + c2 + t1) : 1 * q0 + 18446744073709551616 * q1 + 340282366920938463463374607431768211456 * q2 + 6277101735386680763835789423207666416102355444464034512896 * t2 = 1 * p0 + 18446744073709551616 * p1 + 340282366920938463463374607431768211456 * p2 + (1 * c0 + 18446744073709551616 * c1 + 340282366920938463463374607431768211456 * c2) := by omega
theorem row4 {p0 p1 q0 q1 t0 t1 c0 c1 : Int} (e0 : q0 + 18446744073709551616 * t0 = p0 + c0) (e1 : q1 + 18446744073709551616 * t1 = p1 + c1 + t0) : 1 * q0 + 18446744073709551616 * q1 + 340282366920938463463374607431768211456 * t1 = 1 * p0 + 18446744073709551616 * p1 + (1 * c0 + 18446744073709551616 * c1) := by omega
theorem row5 {p0 q0 t0 c0 : Int} (e0 : q0 + 18446744073709551616 * t0 = p0 + c0) : 1 * q0 + 18446744073709551616 * t0 = 1 * p0 + (1 * c0) := by omega
theorem mul_tup {a0 a1 a2 a3 a4 a5 b0 b1 b2 b3 b4 b5 q00 t00 q01 t01 q02 t02 q03 t03 q04 t04 q05 t05 q10 t10 q11 t11 q12 t12 q13 t13 q14 t14 q20 t20 q21 t21 q22 t22 q23 t23 q30 t30 q31 t31 q32 t32 q40 t40 q41 t41 q50 t50 : Int} (e00 : q00 + 18446744073709551616 * t00 = a0 * b0 + 0 + 0) (e01 : q01 + 18446744073709551616 * t01 = a0 * b1 + 0 + t00) (e02 : q02 + 18446744073709551616 * t02 = a0 * b2 + 0 + t01) (e03 : q03 + 18446744073709551616 * t03 = a0 * b3 + 0 + t02) (e04 : q04 + 18446744073709551616 * t04 = a0 * b4 + 0 + t03) (e05 : q05 + 18446744073709551616 * t05 = a0 * b5 + 0 + t04) (e10 : q10 + 18446744073709551616 * t10 = a1 * b0 + q01 + 0) (e11 : q11 + 18446744073709551616 * t11 = a1 * b1 + q02 + t10) (e12 : q12 + 18446744073709551616 * t12 = a1 * b2 + q03 + t11) (e13 : q13 + 18446744073709551616 * t13 = a1 * b3 + q04 + t12) (e14 : q14 + 18446744073709551616 * t14 = a1 * b4 + q05 + t13) (e20 : q20 + 18446744073709551616 * t20 = a2 * b0 + q11 + 0) (e21 : q21 + 18446744073709551616 * t21 = a2 * b1 + q12 + t20) (e22 : q22 + 18446744073709551616 * t22 = a2 * b2 + q13 + t21) (e23 : q23 + 18446744073709551616 * t23 = a2 * b3 + q14 + t22) (e30 : q30 + 18446744073709551616 * t30 = a3 * b0 + q21 + 0) (e31 : q31 + 18446744073709551616 * t31 = a3 * b1 + q22 + t30) (e32 : q32 + 18446744073709551616 * t32 = a3 * b2 + q23 + t31) (e40 : q40 + 18446744073709551616 * t40 = a4 * b0 + q31 + 0) (e41 : q41 + 18446744073709551616 * t41 = a4 * b1 + q32 + t40) (e50 : q50 + 18446744073709551616 * t50 = a5 * b0 + q41 + 0) (hq : Words q00 q10 q20 q30 q40 q50) : tup (val a0 a1 a2 a3 a4 a5 * val b0 b1 b2 b3 b4 b5 % TOP) = (q00, q10, q20, q30, q40, q50) := by
  have R0 := row0 (show q00 + 18446744073709551616 * t00 = a0 * b0 + 0 by omega) (show q01 + 18446744073709551616 * t01 = a0 * b1 + 0 + t00 by omega) (show q02 + 18446744073709551616 * t02 = a0 * b2 + 0 + t01 by omega) (show q03 + 18446744073709551616 * t03 = a0 * b3 + 0 + t02 by omega) (show q04 + 18446744073709551616 * t04 = a0 * b4 + 0 + t03 by omega) (show q05 + 18446744073709551616 * t05 = a0 * b5 + 0 + t04 by omega)
  have R1 := row1 (show q10 + 18446744073709551616 * t10 = a1 * b0 + q01 by omega) (show q11 + 18446744073709551616 * t11 = a1 * b1 + q02 + t10 by omega) (show q12 + 18446744073709551616 * t12 = a1 * b2 + q03 + t11 by omega) (show q13 + 18446744073709551616 * t13 = a1 * b3 + q04 + t12 by omega) (show q14 + 18446744073709551616 * t14 = a1 * b4 + q05 + t13 by omega)
  have R2 := row2 (show q20 + 18446744073709551616 * t20 = a2 * b0 + q11 by omega) (show q21 + 18446744073709551616 * t21 = a2 * b1 + q12 + t20 by omega) (show q22 + 18446744073709551616 * t22 = a2 * b2 + q13 + t21 by omega) (show q23 + 18446744073709551616 * t23 = a2 * b3 + q14 + t22 by omega)
  have R3 := row3 (show q30 + 18446744073709551616 * t30 = a3 * b0 + q21 by omega) (show q31 + 18446744073709551616 * t31 = a3 * b1 + q22 + t30 by omega) (show q32 + 18446744073709551616 * t32 = a3 * b2 + q23 + t31 by omega)
  have R4 := row4 (show q40 + 18446744073709551616 * t40 = a4 * b0 + q31 by omega) (show q41 + 18446744073709551616 * t41 = a4 * b1 + q32 + t40 by omega)
  have R5 := row5 (show q50 + 18446744073709551616 * t50 = a5 * b0 + q41 by omega)
  clear e00 e01 e02 e03 e04 e05 e10 e11 e12 e13 e14 e20 e21 e22 e23 e30 e31 e32 e40 e41 e50
  have e : val a0 a1 a2 a3 a4 a5 * val b0 b1 b2 b3 b4 b5 = val q00 q10 q20 q30 q40 q50 + TOP * (t05 + t14 + t23 + t32 + t41 + t50 + 1 * (a1 * b5) + 1 * (a2 * b4) + 18446744073709551616 * (a2 * b5) + 1 * (a3 * b3) + 18446744073709551616 * (a3 * b4) + 340282366920938463463374607431768211456 * (a3 * b5) + 1 * (a4 * b2) + 18446744073709551616 * (a4 * b3) + 340282366920938463463374607431768211456 * (a4 * b4) + 6277101735386680763835789423207666416102355444464034512896 * (a4 * b5) + 1 * (a5 * b1) + 18446744073709551616 * (a5 * b2) + 340282366920938463463374607431768211456 * (a5 * b3) + 6277101735386680763835789423207666416102355444464034512896 * (a5 * b4) + 115792089237316195423570985008687907853269984665640564039457584007913129639936 * (a5 * b5)) := by
    rw [val_mul]
    simp only [mul_val]
    unfold TOP
    simp only [val]
    generalize a0 * b0 = z00 at *
    generalize a0 * b1 = z01 at *
    generalize a0 * b2 = z02 at *
    generalize a0 * b3 = z03 at *
    generalize a0 * b4 = z04 at *
    generalize a0 * b5 = z05 at *
    generalize a1 * b0 = z10 at *
    generalize a1 * b1 = z11 at *
    generalize a1 * b2 = z12 at *
    generalize a1 * b3 = z13 at *
    generalize a1 * b4 = z14 at *
    generalize a1 * b5 = z15 at *
    generalize a2 * b0 = z20 at *
    generalize a2 * b1 = z21 at *
    generalize a2 * b2 = z22 at *
    generalize a2 * b3 = z23 at *
    generalize a2 * b4 = z24 at *
    generalize a2 * b5 = z25 at *
    generalize a3 * b0 = z30 at *
    generalize a3 * b1 = z31 at *
    generalize a3 * b2 = z32 at *
    generalize a3 * b3 = z33 at *
    generalize a3 * b4 = z34 at *
    generalize a3 * b5 = z35 at *
    generalize a4 * b0 = z40 at *
    generalize a4 * b1 = z41 at *
    generalize a4 * b2 = z42 at *
    generalize a4 * b3 = z43 at *
    generalize a4 * b4 = z44 at *
    generalize a4 * b5 = z45 at *
    generalize a5 * b0 = z50 at *
    generalize a5 * b1 = z51 at *
    generalize a5 * b2 = z52 at *
    generalize a5 * b3 = z53 at *
    generalize a5 * b4 = z54 at *
    generalize a5 * b5 = z55 at *
    omega
  have b := val_bd hq
  rw [e, Int.add_mul_emod_self_left, Int.emod_eq_of_lt b.1 b.2, tup_val hq]
theorem lt_val {a0 a1 a2 a3 a4 a5 b0 b1 b2 b3 b4 b5 : Int} (ha : Words a0 a1 a2 a3 a4 a5) (hb : Words b0 b1 b2 b3 b4 b5) (h : (a5 < b5) ∨ (a5 = b5 ∧ a4 < b4) ∨ (a5 = b5 ∧ a4 = b4 ∧ a3 < b3) ∨ (a5 = b5 ∧ a4 = b4 ∧ a3 = b3 ∧ a2 < b2) ∨ (a5 = b5 ∧ a4 = b4 ∧ a3 = b3 ∧ a2 = b2 ∧ a1 < b1) ∨ (a5 = b5 ∧ a4 = b4 ∧ a3 = b3 ∧ a2 = b2 ∧ a1 = b1 ∧ a0 < b0)) : val a0 a1 a2 a3 a4 a5 < val b0 b1 b2 b3 b4 b5 := by
  unfold Words Word at ha hb
  unfold val
  omega
theorem blen_0 {a0 a1 a2 a3 a4 a5 : Int} (ha : Words a0 a1 a2 a3 a4 a5) (g1 : a1 = 0) (g2 : a2 = 0) (g3 : a3 = 0) (g4 : a4 = 0) (g5 : a5 = 0) (h0 : 0 < a0) : blen (val a0 a1 a2 a3 a4 a5) = 0 + blen a0 := by
  unfold Words Word at ha
  subst g1
  subst g2
  subst g3
  subst g4
  subst g5
  rw [show val a0 0 0 0 0 0 = a0 by unfold val; omega, Int.zero_add]
theorem blen_1 {a0 a1 a2 a3 a4 a5 : Int} (ha : Words a0 a1 a2 a3 a4 a5) (g2 : a2 = 0) (g3 : a3 = 0) (g4 : a4 = 0) (g5 : a5 = 0) (h0 : 0 < a1) : blen (val a0 a1 a2 a3 a4 a5) = 64 + blen a1 := by
  unfold Words Word at ha
  subst g2
  subst g3
  subst g4
  subst g5
  have q : val a0 a1 0 0 0 0 / 18446744073709551616 = a1 := by unfold val; omega
  have l : (2 : Int) ^ 64 ≤ val a0 a1 0 0 0 0 := by rw [show (2 : Int) ^ 64 = 18446744073709551616 from by decide]; unfold val; omega
  have s := blen_shift 64 l
  rw [show (2 : Int) ^ 64 = 18446744073709551616 from by decide, q] at s
  rw [s]; rfl
theorem blen_2 {a0 a1 a2 a3 a4 a5 : Int} (ha : Words a0 a1 a2 a3 a4 a5) (g3 : a3 = 0) (g4 : a4 = 0) (g5 : a5 = 0) (h0 : 0 < a2) : blen (val a0 a1 a2 a3 a4 a5) = 128 + blen a2 := by
  unfold Words Word at ha
  subst g3
  subst g4
  subst g5
  have q : val a0 a1 a2 0 0 0 / 340282366920938463463374607431768211456 = a2 := by unfold val; omega
  have l : (2 : Int) ^ 128 ≤ val a0 a1 a2 0 0 0 := by rw [show (2 : Int) ^ 128 = 340282366920938463463374607431768211456 from by decide]; unfold val; omega
  have s := blen_shift 128 l
  rw [show (2 : Int) ^ 128 = 340282366920938463463374607431768211456 from by decide, q] at s
  rw [s]; rfl
theorem blen_3 {a0 a1 a2 a3 a4 a5 : Int} (ha : Words a0 a1 a2 a3 a4 a5) (g4 : a4 = 0) (g5 : a5 = 0) (h0 : 0 < a3) : blen (val a0 a1 a2 a3 a4 a5) = 192 + blen a3 := by
  unfold Words Word at ha
  subst g4
  subst g5
  have q : val a0 a1 a2 a3 0 0 / 6277101735386680763835789423207666416102355444464034512896 = a3 := by unfold val; omega
  have l : (2 : Int) ^ 192 ≤ val a0 a1 a2 a3 0 0 := by rw [show (2 : Int) ^ 192 = 6277101735386680763835789423207666416102355444464034512896 from by decide]; unfold val; omega
  have s := blen_shift 192 l
  rw [show (2 : Int) ^ 192 = 6277101735386680763835789423207666416102355444464034512896 from by decide, q] at s
  rw [s]; rfl
theorem blen_4 {a0 a1 a2 a3 a4 a5 : Int} (ha : Words a0 a1 a2 a3 a4 a5) (g5 : a5 = 0) (h0 : 0 < a4) : blen (val a0 a1 a2 a3 a4 a5) = 256 + blen a4 := by
  unfold Words Word at ha
  subst g5
  have q : val a0 a1 a2 a3 a4 0 / 115792089237316195423570985008687907853269984665640564039457584007913129639936 = a4 := by unfold val; omega
  have l : (2 : Int) ^ 256 ≤ val a0 a1 a2 a3 a4 0 := by rw [show (2 : Int) ^ 256 = 115792089237316195423570985008687907853269984665640564039457584007913129639936 from by decide]; unfold val; omega
  have s := blen_shift 256 l
  rw [show (2 : Int) ^ 256 = 115792089237316195423570985008687907853269984665640564039457584007913129639936 from by decide, q] at s
  rw [s]; rfl
theorem blen_5 {a0 a1 a2 a3 a4 a5 : Int} (ha : Words a0 a1 a2 a3 a4 a5)  (h0 : 0 < a5) : blen (val a0 a1 a2 a3 a4 a5) = 320 + blen a5 := by
  unfold Words Word at ha
  have q : val a0 a1 a2 a3 a4 a5 / 2135987035920910082395021706169552114602704522356652769947041607822219725780640550022962086936576 = a5 := by unfold val; omega
  have l : (2 : Int) ^ 320 ≤ val a0 a1 a2 a3 a4 a5 := by rw [show (2 : Int) ^ 320 = 2135987035920910082395021706169552114602704522356652769947041607822219725780640550022962086936576 from (Int.pow_add 2 160 160).trans (by decide)]; unfold val; omega
  have s := blen_shift 320 l
  rw [show (2 : Int) ^ 320 = 2135987035920910082395021706169552114602704522356652769947041607822219725780640550022962086936576 from (Int.pow_add 2 160 160).trans (by decide), q] at s
  rw [s]; rfl
theorem left_tup0 {a0 a1 a2 a3 a4 a5 S l0 l1 l2 l3 l4 l5 h0 h1 h2 h3 h4 h5 : Int} (ha : Words a0 a1 a2 a3 a4 a5) (e0 : a0 * S = l0 + 18446744073709551616 * h0) (e1 : a1 * S = l1 + 18446744073709551616 * h1) (e2 : a2 * S = l2 + 18446744073709551616 * h2) (e3 : a3 * S = l3 + 18446744073709551616 * h3) (e4 : a4 * S = l4 + 18446744073709551616 * h4) (e5 : a5 * S = l5 + 18446744073709551616 * h5) (hq : Words l0 (l1 + h0) (l2 + h1) (l3 + h2) (l4 + h3) (l5 + h4)) : tup (val a0 a1 a2 a3 a4 a5 * (1 * S) % TOP) = (l0, (l1 + h0), (l2 + h1), (l3 + h2), (l4 + h3), (l5 + h4)) := by
  have e : val a0 a1 a2 a3 a4 a5 * (1 * S) = val l0 (l1 + h0) (l2 + h1) (l3 + h2) (l4 + h3) (l5 + h4) + TOP * (h5) := by
    rw [Int.mul_left_comm, val_mul, e0, e1, e2, e3, e4, e5]
    unfold TOP val
    omega
  have b := val_bd hq
  rw [e, Int.add_mul_emod_self_left, Int.emod_eq_of_lt b.1 b.2, tup_val hq]
theorem left_tup1 {a0 a1 a2 a3 a4 a5 S l0 l1 l2 l3 l4 l5 h0 h1 h2 h3 h4 h5 : Int} (ha : Words a0 a1 a2 a3 a4 a5) (e0 : a0 * S = l0 + 18446744073709551616 * h0) (e1 : a1 * S = l1 + 18446744073709551616 * h1) (e2 : a2 * S = l2 + 18446744073709551616 * h2) (e3 : a3 * S = l3 + 18446744073709551616 * h3) (e4 : a4 * S = l4 + 18446744073709551616 * h4) (e5 : a5 * S = l5 + 18446744073709551616 * h5) (hq : Words 0 l0 (l1 + h0) (l2 + h1) (l3 + h2) (l4 + h3)) : tup (val a0 a1 a2 a3 a4 a5 * (18446744073709551616 * S) % TOP) = (0, l0, (l1 + h0), (l2 + h1), (l3 + h2), (l4 + h3)) := by
  have e : val a0 a1 a2 a3 a4 a5 * (18446744073709551616 * S) = val 0 l0 (l1 + h0) (l2 + h1) (l3 + h2) (l4 + h3) + TOP * (1 * (l5 + h4) + 18446744073709551616 * h5) := by
    rw [Int.mul_left_comm, val_mul, e0, e1, e2, e3, e4, e5]
    unfold TOP val
    omega
  have b := val_bd hq
  rw [e, Int.add_mul_emod_self_left, Int.emod_eq_of_lt b.1 b.2, tup_val hq]
theorem left_tup2 {a0 a1 a2 a3 a4 a5 S l0 l1 l2 l3 l4 l5 h0 h1 h2 h3 h4 h5 : Int} (ha : Words a0 a1 a2 a3 a4 a5) (e0 : a0 * S = l0 + 18446744073709551616 * h0) (e1 : a1 * S = l1 + 18446744073709551616 * h1) (e2 : a2 * S = l2 + 18446744073709551616 * h2) (e3 : a3 * S = l3 + 18446744073709551616 * h3) (e4 : a4 * S = l4 + 18446744073709551616 * h4) (e5 : a5 * S = l5 + 18446744073709551616 * h5) (hq : Words 0 0 l0 (l1 + h0) (l2 + h1) (l3 + h2)) : tup (val a0 a1 a2 a3 a4 a5 * (340282366920938463463374607431768211456 * S) % TOP) = (0, 0, l0, (l1 + h0), (l2 + h1), (l3 + h2)) := by
  have e : val a0 a1 a2 a3 a4 a5 * (340282366920938463463374607431768211456 * S) = val 0 0 l0 (l1 + h0) (l2 + h1) (l3 + h2) + TOP * (1 * (l4 + h3) + 18446744073709551616 * (l5 + h4) + 340282366920938463463374607431768211456 * h5) := by
    rw [Int.mul_left_comm, val_mul, e0, e1, e2, e3, e4, e5]
    unfold TOP val
    omega
  have b := val_bd hq
  rw [e, Int.add_mul_emod_self_left, Int.emod_eq_of_lt b.1 b.2, tup_val hq]
theorem left_tup3 {a0 a1 a2 a3 a4 a5 S l0 l1 l2 l3 l4 l5 h0 h1 h2 h3 h4 h5 : Int} (ha : Words a0 a1 a2 a3 a4 a5) (e0 : a0 * S = l0 + 18446744073709551616 * h0) (e1 : a1 * S = l1 + 18446744073709551616 * h1) (e2 : a2 * S = l2 + 18446744073709551616 * h2) (e3 : a3 * S = l3 + 18446744073709551616 * h3) (e4 : a4 * S = l4 + 18446744073709551616 * h4) (e5 : a5 * S = l5 + 18446744073709551616 * h5) (hq : Words 0 0 0 l0 (l1 + h0) (l2 + h1)) : tup (val a0 a1 a2 a3 a4 a5 * (6277101735386680763835789423207666416102355444464034512896 * S) % TOP) = (0, 0, 0, l0, (l1 + h0), (l2 + h1)) := by
  have e : val a0 a1 a2 a3 a4 a5 * (6277101735386680763835789423207666416102355444464034512896 * S) = val 0 0 0 l0 (l1 + h0) (l2 + h1) + TOP * (1 * (l3 + h2) + 18446744073709551616 * (l4 + h3) + 340282366920938463463374607431768211456 * (l5 + h4) + 6277101735386680763835789423207666416102355444464034512896 * h5) := by
    rw [Int.mul_left_comm, val_mul, e0, e1, e2, e3, e4, e5]
    unfold TOP val
    omega
  have b := val_bd hq
  rw [e, Int.add_mul_emod_self_left, Int.emod_eq_of_lt b.1 b.2, tup_val hq]
theorem left_tup4 {a0 a1 a2 a3 a4 a5 S l0 l1 l2 l3 l4 l5 h0 h1 h2 h3 h4 h5 : Int} (ha : Words a0 a1 a2 a3 a4 a5) (e0 : a0 * S = l0 + 18446744073709551616 * h0) (e1 : a1 * S = l1 + 18446744073709551616 * h1) (e2 : a2 * S = l2 + 18446744073709551616 * h2) (e3 : a3 * S = l3 + 18446744073709551616 * h3) (e4 : a4 * S = l4 + 18446744073709551616 * h4) (e5 : a5 * S = l5 + 18446744073709551616 * h5) (hq : Words 0 0 0 0 l0 (l1 + h0)) : tup (val a0 a1 a2 a3 a4 a5 * (115792089237316195423570985008687907853269984665640564039457584007913129639936 * S) % TOP) = (0, 0, 0, 0, l0, (l1 + h0)) := by
  have e : val a0 a1 a2 a3 a4 a5 * (115792089237316195423570985008687907853269984665640564039457584007913129639936 * S) = val 0 0 0 0 l0 (l1 + h0) + TOP * (1 * (l2 + h1) + 18446744073709551616 * (l3 + h2) + 340282366920938463463374607431768211456 * (l4 + h3) + 6277101735386680763835789423207666416102355444464034512896 * (l5 + h4) + 115792089237316195423570985008687907853269984665640564039457584007913129639936 * h5) := by
    rw [Int.mul_left_comm, val_mul, e0, e1, e2, e3, e4, e5]
    unfold TOP val
    omega
  have b := val_bd hq
  rw [e, Int.add_mul_emod_self_left, Int.emod_eq_of_lt b.1 b.2, tup_val hq]
theorem left_tup5 {a0 a1 a2 a3 a4 a5 S l0 l1 l2 l3 l4 l5 h0 h1 h2 h3 h4 h5 : Int} (ha : Words a0 a1 a2 a3 a4 a5) (e0 : a0 * S = l0 + 18446744073709551616 * h0) (e1 : a1 * S = l1 + 18446744073709551616 * h1) (e2 : a2 * S = l2 + 18446744073709551616 * h2) (e3 : a3 * S = l3 + 18446744073709551616 * h3) (e4 : a4 * S = l4 + 18446744073709551616 * h4) (e5 : a5 * S = l5 + 18446744073709551616 * h5) (hq : Words 0 0 0 0 0 l0) : tup (val a0 a1 a2 a3 a4 a5 * (2135987035920910082395021706169552114602704522356652769947041607822219725780640550022962086936576 * S) % TOP) = (0, 0, 0, 0, 0, l0) := by
  have e : val a0 a1 a2 a3 a4 a5 * (2135987035920910082395021706169552114602704522356652769947041607822219725780640550022962086936576 * S) = val 0 0 0 0 0 l0 + TOP * (1 * (l1 + h0) + 18446744073709551616 * (l2 + h1) + 340282366920938463463374607431768211456 * (l3 + h2) + 6277101735386680763835789423207666416102355444464034512896 * (l4 + h3) + 115792089237316195423570985008687907853269984665640564039457584007913129639936 * (l5 + h4) + 2135987035920910082395021706169552114602704522356652769947041607822219725780640550022962086936576 * h5) := by
    rw [Int.mul_left_comm, val_mul, e0, e1, e2, e3, e4, e5]
    unfold TOP val
    omega
  have b := val_bd hq
  rw [e, Int.add_mul_emod_self_left, Int.emod_eq_of_lt b.1 b.2, tup_val hq]
theorem add_st {x y c : Int} (hx : Word x) (hy : Word y) (hc : 0 ≤ c ∧ c ≤ 1) : ∃ r k, add64 x y c = some (r, k) ∧ r = (x + y + c) % 18446744073709551616 ∧ k = (x + y + c) / 18446744073709551616 ∧ (0 ≤ k ∧ k ≤ 1) := by
  unfold Word at hx hy
  refine ⟨_, _, ?_, rfl, rfl, by omega⟩
  unfold add64
  rw [if_pos (by simp; omega)]
theorem sub_st {x y c : Int} (hx : Word x) (hy : Word y) (hc : 0 ≤ c ∧ c ≤ 1) : ∃ r k, sub64 x y c = some (r, k) ∧ r = (x - y - c) % 18446744073709551616 ∧ (k = if x < y + c then 1 else 0) ∧ (0 ≤ k ∧ k ≤ 1) := by
  unfold Word at hx hy
  refine ⟨_, _, ?_, rfl, rfl, by split <;> omega⟩
  unfold sub64
  rw [if_pos (by simp [m64]; omega)]
set_option maxRecDepth 10000 in
theorem add_ok {K : Nat} (hK : 7 ≤ K) {a0 a1 a2 a3 a4 a5 b0 b1 b2 b3 b4 b5 : Int} (ha : Words a0 a1 a2 a3 a4 a5) (hb : Words b0 b1 b2 b3 b4 b5) :
    F.wI_Add K a0 a1 a2 a3 a4 a5 b0 b1 b2 b3 b4 b5 = some (tup ((val a0 a1 a2 a3 a4 a5 + val b0 b1 b2 b3 b4 b5) % TOP)) := by
  obtain ⟨k, rfl⟩ : ∃ k, K = k + 7 := ⟨K - 7, by omega⟩
  obtain ⟨ha0, ha1, ha2, ha3, ha4, ha5⟩ := id ha
  obtain ⟨hb0, hb1, hb2, hb3, hb4, hb5⟩ := id hb
  obtain ⟨r0, c1, e0, p0, q0, g1⟩ := add_st ha0 hb0 (c := 0) (by decide)
  obtain ⟨r1, c2, e1, p1, q1, g2⟩ := add_st ha1 hb1 g1
  obtain ⟨r2, c3, e2, p2, q2, g3⟩ := add_st ha2 hb2 g2
  obtain ⟨r3, c4, e3, p3, q3, g4⟩ := add_st ha3 hb3 g3
  obtain ⟨r4, c5, e4, p4, q4, g5⟩ := add_st ha4 hb4 g4
  obtain ⟨r5, c6, e5, p5, q5, g6⟩ := add_st ha5 hb5 g5
  have key := add_tup ha hb p0 q0 p1 q1 p2 q2 p3 q3 p4 q4 p5 q5
  simp [F.wI_Add, F.wI_Add_l3, nth, e0, e1, e2, e3, e4, e5, iw]
  exact key.symm
set_option maxRecDepth 10000 in
theorem sub_ok {K : Nat} (hK : 7 ≤ K) {a0 a1 a2 a3 a4 a5 b0 b1 b2 b3 b4 b5 : Int} (ha : Words a0 a1 a2 a3 a4 a5) (hb : Words b0 b1 b2 b3 b4 b5) :
    F.wI_Sub K a0 a1 a2 a3 a4 a5 b0 b1 b2 b3 b4 b5 = some (tup ((val a0 a1 a2 a3 a4 a5 - val b0 b1 b2 b3 b4 b5) % TOP)) := by
  obtain ⟨k, rfl⟩ : ∃ k, K = k + 7 := ⟨K - 7, by omega⟩
  obtain ⟨ha0, ha1, ha2, ha3, ha4, ha5⟩ := id ha
  obtain ⟨hb0, hb1, hb2, hb3, hb4, hb5⟩ := id hb
  obtain ⟨r0, c1, e0, p0, q0, g1⟩ := sub_st ha0 hb0 (c := 0) (by decide)
  obtain ⟨r1, c2, e1, p1, q1, g2⟩ := sub_st ha1 hb1 g1
  obtain ⟨r2, c3, e2, p2, q2, g3⟩ := sub_st ha2 hb2 g2
  obtain ⟨r3, c4, e3, p3, q3, g4⟩ := sub_st ha3 hb3 g3
  obtain ⟨r4, c5, e4, p4, q4, g5⟩ := sub_st ha4 hb4 g4
  obtain ⟨r5, c6, e5, p5, q5, g6⟩ := sub_st ha5 hb5 g5
  have key := sub_tup ha hb p0 q0 p1 q1 p2 q2 p3 q3 p4 q4 p5 q5
  simp [F.wI_Sub, F.wI_Sub_l3, nth, e0, e1, e2, e3, e4, e5, iw]
  exact key.symm
def cmp3 (x y : Int) : Int := if x < y then -1 else if y < x then 1 else 0
set_option maxRecDepth 10000 in
theorem cmp_ok {K : Nat} (hK : 7 ≤ K) {a0 a1 a2 a3 a4 a5 b0 b1 b2 b3 b4 b5 : Int} (ha : Words a0 a1 a2 a3 a4 a5) (hb : Words b0 b1 b2 b3 b4 b5) :
    F.wI_Cmp K a0 a1 a2 a3 a4 a5 b0 b1 b2 b3 b4 b5 = some (cmp3 (val a0 a1 a2 a3 a4 a5) (val b0 b1 b2 b3 b4 b5)) := by
  obtain ⟨k, rfl⟩ : ∃ k, K = k + 7 := ⟨K - 7, by omega⟩
  have L := lt_val ha hb
  have G := lt_val hb ha
  rcases Int.lt_trichotomy a5 b5 with h5 | h5 | h5
  · rw [cmp3, if_pos (L (by omega))]; simp [F.wI_Cmp, F.wI_Cmp_l2, nth, casO, iw, h5]
  rotate_left
  · have h5' : ¬ a5 < b5 := by omega
    rw [cmp3, if_neg (by have := G (by omega); omega), if_pos (G (by omega))]; simp [F.wI_Cmp, F.wI_Cmp_l2, nth, casO, iw, h5, h5']
  subst h5
  rcases Int.lt_trichotomy a4 b4 with h4 | h4 | h4
  · rw [cmp3, if_pos (L (by omega))]; simp [F.wI_Cmp, F.wI_Cmp_l2, nth, casO, iw, h4]
  rotate_left
  · have h4' : ¬ a4 < b4 := by omega
    rw [cmp3, if_neg (by have := G (by omega); omega), if_pos (G (by omega))]; simp [F.wI_Cmp, F.wI_Cmp_l2, nth, casO, iw, h4, h4']
  subst h4
  rcases Int.lt_trichotomy a3 b3 with h3 | h3 | h3
  · rw [cmp3, if_pos (L (by omega))]; simp [F.wI_Cmp, F.wI_Cmp_l2, nth, casO, iw, h3]
  rotate_left
  · have h3' : ¬ a3 < b3 := by omega
    rw [cmp3, if_neg (by have := G (by omega); omega), if_pos (G (by omega))]; simp [F.wI_Cmp, F.wI_Cmp_l2, nth, casO, iw, h3, h3']
  subst h3
  rcases Int.lt_trichotomy a2 b2 with h2 | h2 | h2
  · rw [cmp3, if_pos (L (by omega))]; simp [F.wI_Cmp, F.wI_Cmp_l2, nth, casO, iw, h2]
  rotate_left
  · have h2' : ¬ a2 < b2 := by omega
    rw [cmp3, if_neg (by have := G (by omega); omega), if_pos (G (by omega))]; simp [F.wI_Cmp, F.wI_Cmp_l2, nth, casO, iw, h2, h2']
  subst h2
  rcases Int.lt_trichotomy a1 b1 with h1 | h1 | h1
  · rw [cmp3, if_pos (L (by omega))]; simp [F.wI_Cmp, F.wI_Cmp_l2, nth, casO, iw, h1]
  rotate_left
  · have h1' : ¬ a1 < b1 := by omega
    rw [cmp3, if_neg (by have := G (by omega); omega), if_pos (G (by omega))]; simp [F.wI_Cmp, F.wI_Cmp_l2, nth, casO, iw, h1, h1']
  subst h1
  rcases Int.lt_trichotomy a0 b0 with h0 | h0 | h0
  · rw [cmp3, if_pos (L (by omega))]; simp [F.wI_Cmp, F.wI_Cmp_l2, nth, casO, iw, h0]
  rotate_left
  · have h0' : ¬ a0 < b0 := by omega
    rw [cmp3, if_neg (by have := G (by omega); omega), if_pos (G (by omega))]; simp [F.wI_Cmp, F.wI_Cmp_l2, nth, casO, iw, h0, h0']
  subst h0
  rw [cmp3, if_neg (by omega), if_neg (by omega)]; simp [F.wI_Cmp, F.wI_Cmp_l2, nth, casO, iw]
end Go.Proofs.Ytimhhefngigfeaa.Wide

namespace Go.Proofs.Ytimhhefngigfeaa.Wide
open Go Go.RowKit Go.Proofs.Ytimhhefngigfeaa.Vm
set_option maxRecDepth 10000 in
theorem len_ok {K : Nat} (hK : 7 ≤ K) {a0 a1 a2 a3 a4 a5 : Int} (ha : Words a0 a1 a2 a3 a4 a5) : F.wI_Len K a0 a1 a2 a3 a4 a5 = some (blen (val a0 a1 a2 a3 a4 a5)) := by
  obtain ⟨k, rfl⟩ : ∃ k, K = k + 7 := ⟨K - 7, by omega⟩
  obtain ⟨ha0, ha1, ha2, ha3, ha4, ha5⟩ := id ha
  by_cases h5 : 0 < a5
  · have e := len64_val (k + 7) ha5
    have bl := bl64 (x := a5) (by unfold Word at ha5; omega)
    rw [blen_5 ha  h5]
    simp [F.wI_Len, F.wI_Len_l2, nth, casO, h5, iw, e]
    rw [iw (by omega) (by omega)]
  have g5 : a5 = 0 := by unfold Word at ha5; omega
  by_cases h4 : 0 < a4
  · have e := len64_val (k + 7) ha4
    have bl := bl64 (x := a4) (by unfold Word at ha4; omega)
    rw [blen_4 ha g5 h4]
    simp [F.wI_Len, F.wI_Len_l2, nth, casO, h4, g5, iw, e]
    rw [iw (by omega) (by omega)]
  have g4 : a4 = 0 := by unfold Word at ha4; omega
  by_cases h3 : 0 < a3
  · have e := len64_val (k + 7) ha3
    have bl := bl64 (x := a3) (by unfold Word at ha3; omega)
    rw [blen_3 ha g4 g5 h3]
    simp [F.wI_Len, F.wI_Len_l2, nth, casO, h3, g4, g5, iw, e]
    rw [iw (by omega) (by omega)]
  have g3 : a3 = 0 := by unfold Word at ha3; omega
  by_cases h2 : 0 < a2
  · have e := len64_val (k + 7) ha2
    have bl := bl64 (x := a2) (by unfold Word at ha2; omega)
    rw [blen_2 ha g3 g4 g5 h2]
    simp [F.wI_Len, F.wI_Len_l2, nth, casO, h2, g3, g4, g5, iw, e]
    rw [iw (by omega) (by omega)]
  have g2 : a2 = 0 := by unfold Word at ha2; omega
  by_cases h1 : 0 < a1
  · have e := len64_val (k + 7) ha1
    have bl := bl64 (x := a1) (by unfold Word at ha1; omega)
    rw [blen_1 ha g2 g3 g4 g5 h1]
    simp [F.wI_Len, F.wI_Len_l2, nth, casO, h1, g2, g3, g4, g5, iw, e]
    rw [iw (by omega) (by omega)]
  have g1 : a1 = 0 := by unfold Word at ha1; omega
  by_cases h0 : 0 < a0
  · have e := len64_val (k + 7) ha0
    have bl := bl64 (x := a0) (by unfold Word at ha0; omega)
    rw [blen_0 ha g1 g2 g3 g4 g5 h0]
    simp [F.wI_Len, F.wI_Len_l2, nth, casO, h0, g1, g2, g3, g4, g5, iw, e]
    rw [iw (by omega) (by omega)]
  have g0 : a0 = 0 := by unfold Word at ha0; omega
  subst g0 g1 g2 g3 g4 g5
  simp [F.wI_Len, F.wI_Len_l2, nth, casO, iw, val, blen]
theorem mac_st (K : Nat) {a b c d : Int} (ha : Word a) (hb : Word b) (hc : Word c) (hd : Word d) : ∃ h l p k q m t : Int, F.bits_Mul64 K a b = some (h, l) ∧ add64 l c 0 = some (p, k) ∧ add64 p d 0 = some (q, m) ∧
    IntKind.u64.wrap (IntKind.u64.wrap (h + k) + m) = t ∧ Word q ∧ Word t ∧ q + 18446744073709551616 * t = a * b + c + d := by
  have mb := mul_le (a := a) (b := b) (A := 18446744073709551615) (B := 18446744073709551615) ha.1 ha.2 hb.1 hb.2
  obtain ⟨p, k, e1, hp, hk, _⟩ := add_st (x := a * b % 18446744073709551616) (y := c) (c := 0) (by unfold Word; omega) hc (by decide)
  obtain ⟨q, m, e2, hq, hm, _⟩ := add_st (x := p) (y := d) (c := 0) (by unfold Word at *; omega) hd (by decide)
  unfold Word at hc hd
  refine ⟨_, _, p, k, q, m, _, mul64_val K ha hb, e1, e2, rfl, ?_⟩
  rw [wu, wu]
  generalize a * b = z at *
  unfold Word
  omega
set_option maxRecDepth 100000 in
set_option maxHeartbeats 4000000 in
theorem mul_ok {K : Nat} (hK : 7 ≤ K) {a0 a1 a2 a3 a4 a5 b0 b1 b2 b3 b4 b5 : Int} (ha : Words a0 a1 a2 a3 a4 a5) (hb : Words b0 b1 b2 b3 b4 b5) :
    F.wI_Mul K a0 a1 a2 a3 a4 a5 b0 b1 b2 b3 b4 b5 = some (tup ((val a0 a1 a2 a3 a4 a5 * val b0 b1 b2 b3 b4 b5) % TOP)) := by
  obtain ⟨k, rfl⟩ : ∃ k, K = k + 7 := ⟨K - 7, by omega⟩
  obtain ⟨ha0, ha1, ha2, ha3, ha4, ha5⟩ := id ha
  obtain ⟨hb0, hb1, hb2, hb3, hb4, hb5⟩ := id hb
  have z0 : Word 0 := by decide
  obtain ⟨h00, l00, p00, k00, q00, m00, t00, x00, y00, u00, s00, w00, v00, e00⟩ := mac_st (k + 7) ha0 hb0 z0 z0
  obtain ⟨h01, l01, p01, k01, q01, m01, t01, x01, y01, u01, s01, w01, v01, e01⟩ := mac_st (k + 7) ha0 hb1 z0 v00
  obtain ⟨h02, l02, p02, k02, q02, m02, t02, x02, y02, u02, s02, w02, v02, e02⟩ := mac_st (k + 7) ha0 hb2 z0 v01
  obtain ⟨h03, l03, p03, k03, q03, m03, t03, x03, y03, u03, s03, w03, v03, e03⟩ := mac_st (k + 7) ha0 hb3 z0 v02
  obtain ⟨h04, l04, p04, k04, q04, m04, t04, x04, y04, u04, s04, w04, v04, e04⟩ := mac_st (k + 7) ha0 hb4 z0 v03
  obtain ⟨h05, l05, p05, k05, q05, m05, t05, x05, y05, u05, s05, w05, v05, e05⟩ := mac_st (k + 7) ha0 hb5 z0 v04
  obtain ⟨h10, l10, p10, k10, q10, m10, t10, x10, y10, u10, s10, w10, v10, e10⟩ := mac_st (k + 7) ha1 hb0 w01 z0
  obtain ⟨h11, l11, p11, k11, q11, m11, t11, x11, y11, u11, s11, w11, v11, e11⟩ := mac_st (k + 7) ha1 hb1 w02 v10
  obtain ⟨h12, l12, p12, k12, q12, m12, t12, x12, y12, u12, s12, w12, v12, e12⟩ := mac_st (k + 7) ha1 hb2 w03 v11
  obtain ⟨h13, l13, p13, k13, q13, m13, t13, x13, y13, u13, s13, w13, v13, e13⟩ := mac_st (k + 7) ha1 hb3 w04 v12
  obtain ⟨h14, l14, p14, k14, q14, m14, t14, x14, y14, u14, s14, w14, v14, e14⟩ := mac_st (k + 7) ha1 hb4 w05 v13
  obtain ⟨h20, l20, p20, k20, q20, m20, t20, x20, y20, u20, s20, w20, v20, e20⟩ := mac_st (k + 7) ha2 hb0 w11 z0
  obtain ⟨h21, l21, p21, k21, q21, m21, t21, x21, y21, u21, s21, w21, v21, e21⟩ := mac_st (k + 7) ha2 hb1 w12 v20
  obtain ⟨h22, l22, p22, k22, q22, m22, t22, x22, y22, u22, s22, w22, v22, e22⟩ := mac_st (k + 7) ha2 hb2 w13 v21
  obtain ⟨h23, l23, p23, k23, q23, m23, t23, x23, y23, u23, s23, w23, v23, e23⟩ := mac_st (k + 7) ha2 hb3 w14 v22
  obtain ⟨h30, l30, p30, k30, q30, m30, t30, x30, y30, u30, s30, w30, v30, e30⟩ := mac_st (k + 7) ha3 hb0 w21 z0
  obtain ⟨h31, l31, p31, k31, q31, m31, t31, x31, y31, u31, s31, w31, v31, e31⟩ := mac_st (k + 7) ha3 hb1 w22 v30
  obtain ⟨h32, l32, p32, k32, q32, m32, t32, x32, y32, u32, s32, w32, v32, e32⟩ := mac_st (k + 7) ha3 hb2 w23 v31
  obtain ⟨h40, l40, p40, k40, q40, m40, t40, x40, y40, u40, s40, w40, v40, e40⟩ := mac_st (k + 7) ha4 hb0 w31 z0
  obtain ⟨h41, l41, p41, k41, q41, m41, t41, x41, y41, u41, s41, w41, v41, e41⟩ := mac_st (k + 7) ha4 hb1 w32 v40
  obtain ⟨h50, l50, p50, k50, q50, m50, t50, x50, y50, u50, s50, w50, v50, e50⟩ := mac_st (k + 7) ha5 hb0 w41 z0
  have key := mul_tup e00 e01 e02 e03 e04 e05 e10 e11 e12 e13 e14 e20 e21 e22 e23 e30 e31 e32 e40 e41 e50 ⟨w00, w10, w20, w30, w40, w50⟩
  simp [F.wI_Mul, F.wI_Mul_l3, F.wI_Mul_l7, nth, iw, x00, y00, u00, s00, x01, y01, u01, s01, x02, y02, u02, s02, x03, y03, u03, s03, x04, y04, u04, s04, x05, y05, u05, s05, x10, y10, u10, s10, x11, y11, u11, s11, x12, y12, u12, s12, x13, y13, u13, s13, x14, y14, u14, s14, x20, y20, u20, s20, x21, y21, u21, s21, x22, y22, u22, s22, x23, y23, u23, s23, x30, y30, u30, s30, x31, y31, u31, s31, x32, y32, u32, s32, x40, y40, u40, s40, x41, y41, u41, s41, x50, y50, u50, s50]
  exact key.symm
end Go.Proofs.Ytimhhefngigfeaa.Wide

namespace Go.Proofs.Ytimhhefngigfeaa.Wide
open Go Go.RowKit Go.Proofs.Ytimhhefngigfeaa.Vm
theorem and63 (x : Int) (h0 : 0 ≤ x) (h1 : x < 9223372036854775808) : land .i64 x 63 = x % 64 :=
  bits_mask .i64 63 (by decide) (fun n h0 h1 => by rw [wi]; omega) 6 (by decide) x h0 h1
theorem shl_word {a s : Int} (ha : Word a) (s0 : 0 ≤ s) (s1 : s ≤ 63) : ∃ l h : Int, l = IntKind.u64.wrap (a * 2 ^ s.toNat) ∧ a * 2 ^ s.toNat = l + 18446744073709551616 * h ∧ (∃ m, l = 2 ^ s.toNat * m) ∧ 0 ≤ h ∧ h < 2 ^ s.toNat ∧ 0 ≤ l ∧ l ≤ 18446744073709551616 - 2 ^ s.toNat ∧ (0 < s → h = a / 2 ^ (64 - s).toNat) := by
  obtain ⟨n, rfl⟩ := Int.eq_ofNat_of_zero_le s0
  have hn : n ≤ 63 := by omega
  have e : (2 : Int) ^ (64 - n) * 2 ^ n = 18446744073709551616 := by rw [← Int.pow_add, show 64 - n + n = 64 by omega]; decide
  have hp : (0 : Int) < 2 ^ n := Int.pow_pos (by decide)
  have hq : (0 : Int) < 2 ^ (64 - n) := Int.pow_pos (by decide)
  simp only [Int.toNat_natCast]
  have d := Int.emod_add_mul_ediv (a * 2 ^ n) 18446744073709551616
  have hd : a * 2 ^ n / 18446744073709551616 = a / 2 ^ (64 - n) := by rw [← e]; exact Int.mul_ediv_mul_of_pos_left _ _ hp
  have hm : a * 2 ^ n % 18446744073709551616 = 2 ^ n * (a % 2 ^ (64 - n)) := by rw [← e, Int.mul_comm a, Int.mul_comm (2 ^ (64 - n)) (2 ^ n)]; exact Int.mul_emod_mul_of_pos _ _ hp
  refine ⟨_, a * 2 ^ n / 18446744073709551616, rfl, ?_, ⟨a % 2 ^ (64 - n), ?_⟩, ?_, ?_, ?_, ?_, ?_⟩
  · rw [wu]; omega
  · rw [wu]; exact hm
  · rw [hd]; exact Int.ediv_nonneg ha.1 (by omega)
  · rw [hd]; exact (Int.ediv_lt_iff_lt_mul hq).2 (by rw [Int.mul_comm, e]; unfold Word at ha; omega)
  · rw [wu]; omega
  · rw [wu, hm]
    have b1 := Int.emod_lt_of_pos a hq
    have b2 := Int.mul_le_mul_of_nonneg_left (show a % 2 ^ (64 - n) ≤ 2 ^ (64 - n) - 1 by omega) (show (0 : Int) ≤ 2 ^ n by omega)
    rw [Int.mul_sub, Int.mul_one, Int.mul_comm _ (2 ^ (64 - n)), e] at b2
    exact b2
  · intro hs
    rw [hd, show (64 - (n : Int)).toNat = 64 - n by omega]
theorem or_parts {s l h : Int} (s0 : 0 ≤ s) (s1 : s ≤ 63) (l0 : 0 ≤ l) (l1 : l ≤ 18446744073709551616 - 2 ^ s.toNat) (lm : ∃ m, l = 2 ^ s.toNat * m) (h0 : 0 ≤ h) (h1 : h < 2 ^ s.toNat) : lor .u64 l h = l + h := by
  have hp : (0 : Int) < 2 ^ s.toNat := Int.pow_pos (by decide)
  obtain ⟨m, hm⟩ := lm
  exact bits_join .u64 64 (by decide) wraps64 s.toNat l h l0 (by rw [hm]; exact Int.mul_emod_right _ _) (by omega) h0 h1 (by omega)
set_option maxRecDepth 100000 in
set_option maxHeartbeats 4000000 in
theorem left_ok {K : Nat} (hK : 7 ≤ K) {a0 a1 a2 a3 a4 a5 n : Int} (ha : Words a0 a1 a2 a3 a4 a5) (n0 : 0 ≤ n) (n1 : n ≤ 383) :
    F.wI_Left K a0 a1 a2 a3 a4 a5 n = some (tup (val a0 a1 a2 a3 a4 a5 * 2 ^ n.toNat % TOP)) := by
  obtain ⟨k, rfl⟩ : ∃ k, K = k + 7 := ⟨K - 7, by omega⟩
  obtain ⟨x0, x1, x2, x3, x4, x5⟩ := id ha
  have hs := and63 n n0 (by omega)
  obtain ⟨s, hsd⟩ : ∃ s : Int, s = n % 64 := ⟨_, rfl⟩
  rw [← hsd] at hs
  have s0 : 0 ≤ s := by omega
  have s1 : s ≤ 63 := by omega
  have sn : ¬ s < 0 := by omega
  have mn : min s.toNat 64 = s.toNat := by omega
  have uw1 : IntKind.u64.wrap s = s := uw s0 (by omega)
  have fw : n.fdiv 64 = n / 64 := fd n 64 (by decide)
  have hp : (0 : Int) < 2 ^ s.toNat := Int.pow_pos (by decide)
  obtain ⟨l0, h0, L0, e0, m0, hn0, hx0, ln0, lx0, hh0⟩ := shl_word x0 s0 s1
  obtain ⟨l1, h1, L1, e1, m1, hn1, hx1, ln1, lx1, hh1⟩ := shl_word x1 s0 s1
  obtain ⟨l2, h2, L2, e2, m2, hn2, hx2, ln2, lx2, hh2⟩ := shl_word x2 s0 s1
  obtain ⟨l3, h3, L3, e3, m3, hn3, hx3, ln3, lx3, hh3⟩ := shl_word x3 s0 s1
  obtain ⟨l4, h4, L4, e4, m4, hn4, hx4, ln4, lx4, hh4⟩ := shl_word x4 s0 s1
  obtain ⟨l5, h5, L5, e5, m5, hn5, hx5, ln5, lx5, hh5⟩ := shl_word x5 s0 s1
  rcases (show n / 64 = 0 ∨ n / 64 = 1 ∨ n / 64 = 2 ∨ n / 64 = 3 ∨ n / 64 = 4 ∨ n / 64 = 5 by omega) with hw | hw | hw | hw | hw | hw
  · have pw : (2 : Int) ^ n.toNat = 1 * 2 ^ s.toNat := by rw [show n.toNat = 0 + s.toNat by omega, Int.pow_add]; congr 1
    have hq : Words l0 (l1 + h0) (l2 + h1) (l3 + h2) (l4 + h3) (l5 + h4) := by unfold Words Word; omega
    rw [pw, left_tup0 ha e0 e1 e2 e3 e4 e5 hq]
    by_cases sp : 0 < s
    · have wr : IntKind.u64.wrap (64 - s) = 64 - s := uw (by omega) (by omega)
      have g1 : ¬ (64 - s < 0) := by omega
      have g2 : min (64 - s).toNat 64 = (64 - s).toNat := by omega
      have o1 : lor .u64 l1 (a0.fdiv (2 ^ (64 - s).toNat)) = l1 + h0 := by rw [fd _ _ (Int.le_of_lt (Int.pow_pos (by decide))), ← hh0 sp]; exact or_parts s0 s1 ln1 lx1 m1 hn0 hx0
      have o2 : lor .u64 l2 (a1.fdiv (2 ^ (64 - s).toNat)) = l2 + h1 := by rw [fd _ _ (Int.le_of_lt (Int.pow_pos (by decide))), ← hh1 sp]; exact or_parts s0 s1 ln2 lx2 m2 hn1 hx1
      have o3 : lor .u64 l3 (a2.fdiv (2 ^ (64 - s).toNat)) = l3 + h2 := by rw [fd _ _ (Int.le_of_lt (Int.pow_pos (by decide))), ← hh2 sp]; exact or_parts s0 s1 ln3 lx3 m3 hn2 hx2
      have o4 : lor .u64 l4 (a3.fdiv (2 ^ (64 - s).toNat)) = l4 + h3 := by rw [fd _ _ (Int.le_of_lt (Int.pow_pos (by decide))), ← hh3 sp]; exact or_parts s0 s1 ln4 lx4 m4 hn3 hx3
      have o5 : lor .u64 l5 (a4.fdiv (2 ^ (64 - s).toNat)) = l5 + h4 := by rw [fd _ _ (Int.le_of_lt (Int.pow_pos (by decide))), ← hh4 sp]; exact or_parts s0 s1 ln5 lx5 m5 hn4 hx4
      simp [F.wI_Left, F.wI_Left_l4, nth, iw, fw, hw, hs, uw1, sn, sp, mn, wr, g1, g2, ← L0, ← L1, ← L2, ← L3, ← L4, ← L5, o1, o2, o3, o4, o5]
    · have sz : s = 0 := by omega
      have hz : h0 = 0 ∧ h1 = 0 ∧ h2 = 0 ∧ h3 = 0 ∧ h4 = 0 := by rw [sz] at hx0 hx1 hx2 hx3 hx4; simp at hx0 hx1 hx2 hx3 hx4; omega
      simp [F.wI_Left, F.wI_Left_l4, nth, iw, fw, hw, hs, uw1, sn, sp, mn, hz, ← L0, ← L1, ← L2, ← L3, ← L4, ← L5]
  · have pw : (2 : Int) ^ n.toNat = 18446744073709551616 * 2 ^ s.toNat := by rw [show n.toNat = 64 + s.toNat by omega, Int.pow_add]; congr 1
    have hq : Words 0 l0 (l1 + h0) (l2 + h1) (l3 + h2) (l4 + h3) := by unfold Words Word; omega
    rw [pw, left_tup1 ha e0 e1 e2 e3 e4 e5 hq]
    by_cases sp : 0 < s
    · have wr : IntKind.u64.wrap (64 - s) = 64 - s := uw (by omega) (by omega)
      have g1 : ¬ (64 - s < 0) := by omega
      have g2 : min (64 - s).toNat 64 = (64 - s).toNat := by omega
      have o1 : lor .u64 l1 (a0.fdiv (2 ^ (64 - s).toNat)) = l1 + h0 := by rw [fd _ _ (Int.le_of_lt (Int.pow_pos (by decide))), ← hh0 sp]; exact or_parts s0 s1 ln1 lx1 m1 hn0 hx0
      have o2 : lor .u64 l2 (a1.fdiv (2 ^ (64 - s).toNat)) = l2 + h1 := by rw [fd _ _ (Int.le_of_lt (Int.pow_pos (by decide))), ← hh1 sp]; exact or_parts s0 s1 ln2 lx2 m2 hn1 hx1
      have o3 : lor .u64 l3 (a2.fdiv (2 ^ (64 - s).toNat)) = l3 + h2 := by rw [fd _ _ (Int.le_of_lt (Int.pow_pos (by decide))), ← hh2 sp]; exact or_parts s0 s1 ln3 lx3 m3 hn2 hx2
      have o4 : lor .u64 l4 (a3.fdiv (2 ^ (64 - s).toNat)) = l4 + h3 := by rw [fd _ _ (Int.le_of_lt (Int.pow_pos (by decide))), ← hh3 sp]; exact or_parts s0 s1 ln4 lx4 m4 hn3 hx3
      simp [F.wI_Left, F.wI_Left_l4, nth, iw, fw, hw, hs, uw1, sn, sp, mn, wr, g1, g2, ← L0, ← L1, ← L2, ← L3, ← L4, o1, o2, o3, o4]
    · have sz : s = 0 := by omega
      have hz : h0 = 0 ∧ h1 = 0 ∧ h2 = 0 ∧ h3 = 0 := by rw [sz] at hx0 hx1 hx2 hx3; simp at hx0 hx1 hx2 hx3; omega
      simp [F.wI_Left, F.wI_Left_l4, nth, iw, fw, hw, hs, uw1, sn, sp, mn, hz, ← L0, ← L1, ← L2, ← L3, ← L4]
  · have pw : (2 : Int) ^ n.toNat = 340282366920938463463374607431768211456 * 2 ^ s.toNat := by rw [show n.toNat = 128 + s.toNat by omega, Int.pow_add]; congr 1
    have hq : Words 0 0 l0 (l1 + h0) (l2 + h1) (l3 + h2) := by unfold Words Word; omega
    rw [pw, left_tup2 ha e0 e1 e2 e3 e4 e5 hq]
    by_cases sp : 0 < s
    · have wr : IntKind.u64.wrap (64 - s) = 64 - s := uw (by omega) (by omega)
      have g1 : ¬ (64 - s < 0) := by omega
      have g2 : min (64 - s).toNat 64 = (64 - s).toNat := by omega
      have o1 : lor .u64 l1 (a0.fdiv (2 ^ (64 - s).toNat)) = l1 + h0 := by rw [fd _ _ (Int.le_of_lt (Int.pow_pos (by decide))), ← hh0 sp]; exact or_parts s0 s1 ln1 lx1 m1 hn0 hx0
      have o2 : lor .u64 l2 (a1.fdiv (2 ^ (64 - s).toNat)) = l2 + h1 := by rw [fd _ _ (Int.le_of_lt (Int.pow_pos (by decide))), ← hh1 sp]; exact or_parts s0 s1 ln2 lx2 m2 hn1 hx1
      have o3 : lor .u64 l3 (a2.fdiv (2 ^ (64 - s).toNat)) = l3 + h2 := by rw [fd _ _ (Int.le_of_lt (Int.pow_pos (by decide))), ← hh2 sp]; exact or_parts s0 s1 ln3 lx3 m3 hn2 hx2
      simp [F.wI_Left, F.wI_Left_l4, nth, iw, fw, hw, hs, uw1, sn, sp, mn, wr, g1, g2, ← L0, ← L1, ← L2, ← L3, o1, o2, o3]
    · have sz : s = 0 := by omega
      have hz : h0 = 0 ∧ h1 = 0 ∧ h2 = 0 := by rw [sz] at hx0 hx1 hx2; simp at hx0 hx1 hx2; omega
      simp [F.wI_Left, F.wI_Left_l4, nth, iw, fw, hw, hs, uw1, sn, sp, mn, hz, ← L0, ← L1, ← L2, ← L3]
  · have pw : (2 : Int) ^ n.toNat = 6277101735386680763835789423207666416102355444464034512896 * 2 ^ s.toNat := by rw [show n.toNat = 192 + s.toNat by omega, Int.pow_add]; congr 1
    have hq : Words 0 0 0 l0 (l1 + h0) (l2 + h1) := by unfold Words Word; omega
    rw [pw, left_tup3 ha e0 e1 e2 e3 e4 e5 hq]
    by_cases sp : 0 < s
    · have wr : IntKind.u64.wrap (64 - s) = 64 - s := uw (by omega) (by omega)
      have g1 : ¬ (64 - s < 0) := by omega
      have g2 : min (64 - s).toNat 64 = (64 - s).toNat := by omega
      have o1 : lor .u64 l1 (a0.fdiv (2 ^ (64 - s).toNat)) = l1 + h0 := by rw [fd _ _ (Int.le_of_lt (Int.pow_pos (by decide))), ← hh0 sp]; exact or_parts s0 s1 ln1 lx1 m1 hn0 hx0
      have o2 : lor .u64 l2 (a1.fdiv (2 ^ (64 - s).toNat)) = l2 + h1 := by rw [fd _ _ (Int.le_of_lt (Int.pow_pos (by decide))), ← hh1 sp]; exact or_parts s0 s1 ln2 lx2 m2 hn1 hx1
      simp [F.wI_Left, F.wI_Left_l4, nth, iw, fw, hw, hs, uw1, sn, sp, mn, wr, g1, g2, ← L0, ← L1, ← L2, o1, o2]
    · have sz : s = 0 := by omega
      have hz : h0 = 0 ∧ h1 = 0 := by rw [sz] at hx0 hx1; simp at hx0 hx1; omega
      simp [F.wI_Left, F.wI_Left_l4, nth, iw, fw, hw, hs, uw1, sn, sp, mn, hz, ← L0, ← L1, ← L2]
  · have pw : (2 : Int) ^ n.toNat = 115792089237316195423570985008687907853269984665640564039457584007913129639936 * 2 ^ s.toNat := by rw [show n.toNat = 256 + s.toNat by omega, Int.pow_add]; congr 1
    have hq : Words 0 0 0 0 l0 (l1 + h0) := by unfold Words Word; omega
    rw [pw, left_tup4 ha e0 e1 e2 e3 e4 e5 hq]
    by_cases sp : 0 < s
    · have wr : IntKind.u64.wrap (64 - s) = 64 - s := uw (by omega) (by omega)
      have g1 : ¬ (64 - s < 0) := by omega
      have g2 : min (64 - s).toNat 64 = (64 - s).toNat := by omega
      have o1 : lor .u64 l1 (a0.fdiv (2 ^ (64 - s).toNat)) = l1 + h0 := by rw [fd _ _ (Int.le_of_lt (Int.pow_pos (by decide))), ← hh0 sp]; exact or_parts s0 s1 ln1 lx1 m1 hn0 hx0
      simp [F.wI_Left, F.wI_Left_l4, nth, iw, fw, hw, hs, uw1, sn, sp, mn, wr, g1, g2, ← L0, ← L1, o1]
    · have sz : s = 0 := by omega
      have hz : h0 = 0 := by rw [sz] at hx0; simp at hx0; omega
      simp [F.wI_Left, F.wI_Left_l4, nth, iw, fw, hw, hs, uw1, sn, sp, mn, hz, ← L0, ← L1]
  · have pw : (2 : Int) ^ n.toNat = 2135987035920910082395021706169552114602704522356652769947041607822219725780640550022962086936576 * 2 ^ s.toNat := by rw [show n.toNat = 160 + 160 + s.toNat by omega, Int.pow_add, Int.pow_add]; congr 1
    have hq : Words 0 0 0 0 0 l0 := by unfold Words Word; omega
    rw [pw, left_tup5 ha e0 e1 e2 e3 e4 e5 hq]
    by_cases sp : 0 < s
    · have wr : IntKind.u64.wrap (64 - s) = 64 - s := uw (by omega) (by omega)
      have g1 : ¬ (64 - s < 0) := by omega
      have g2 : min (64 - s).toNat 64 = (64 - s).toNat := by omega
      simp [F.wI_Left, F.wI_Left_l4, nth, iw, fw, hw, hs, uw1, sn, sp, mn, wr, g1, g2, ← L0]
    · have sz : s = 0 := by omega
      simp [F.wI_Left, F.wI_Left_l4, nth, iw, fw, hw, hs, uw1, sn, sp, mn, ← L0]
end Go.Proofs.Ytimhhefngigfeaa.Wide

set_option exponentiation.threshold 400
namespace Go.Proofs.Ytimhhefngigfeaa.Wide
open Go Go.RowKit Go.Proofs.Ytimhhefngigfeaa.Vm
theorem p384 : (2 : Int) ^ 384 = TOP := (Int.pow_add 2 192 192).trans (by decide)
theorem pow_le {a b : Nat} (h : a ≤ b) : (2 : Int) ^ a ≤ 2 ^ b := by exact_mod_cast Nat.pow_le_pow_right (n := 2) (by decide) h
def Inv (A B n R q : Int) : Prop := A = q * B + R ∧ 0 ≤ R ∧ 0 ≤ q ∧ (n < 0 → R < B) ∧ (0 ≤ n → R < B * 2 ^ (n.toNat + 1) ∧ B * 2 ^ n.toNat < TOP ∧ ∃ k, q = 2 ^ (n.toNat + 1) * k)
theorem inv_start {A B : Int} (hA : 0 ≤ A ∧ A < TOP) (hB : 0 < B ∧ B < TOP) : Inv A B (blen A - blen B) A 0 := by
  obtain ⟨m, em, m0, m1⟩ := blen_spec hB.1
  refine ⟨by omega, hA.1, by omega, ?_, ?_⟩
  · intro hn
    by_cases c : 0 < A
    · obtain ⟨n, en, n0, n1⟩ := blen_spec c
      have : n + 1 ≤ m := by omega
      have : (2 : Int) ^ (n + 1) ≤ 2 ^ m := by exact_mod_cast Nat.pow_le_pow_right (by decide) this
      omega
    · omega
  · intro hn
    by_cases c : 0 < A
    · obtain ⟨n, en, n0, n1⟩ := blen_spec c
      obtain ⟨d, hd⟩ : ∃ d : Nat, (blen A - blen B).toNat = d := ⟨_, rfl⟩
      have e : n = m + d := by omega
      subst e
      rw [hd]
      have hp : (0 : Int) < 2 ^ d := Int.pow_pos (by decide)
      have hq : (0 : Int) < 2 ^ (d + 1) := Int.pow_pos (by decide)
      refine ⟨?_, ?_, ⟨0, by simp⟩⟩
      · have := Int.mul_le_mul_of_nonneg_right m0 (Int.le_of_lt hq)
        rw [← Int.pow_add, ← Nat.add_assoc] at this
        omega
      · have h2 : B * 2 ^ d < 2 ^ (m + 1) * 2 ^ d := Int.mul_lt_mul_of_pos_right m1 hp
        rw [← Int.pow_add] at h2
        have h3 : m + d < 384 := by
          apply Nat.lt_of_not_le
          intro hle
          have := pow_le hle
          rw [p384] at this
          omega
        have h4 := pow_le (show m + 1 + d ≤ 384 by omega)
        rw [p384] at h4
        omega
    · have : blen A = 0 := by unfold blen; rw [if_pos (by omega)]
      omega
theorem inv_yes {A B n R q : Int} (h : Inv A B n R q) (hB : 0 < B) (hn : 0 ≤ n) (hge : B * 2 ^ n.toNat ≤ R) : Inv A B (n - 1) (R - B * 2 ^ n.toNat) (q + 2 ^ n.toNat) := by
  obtain ⟨e, r0, q0, _, h2⟩ := h
  obtain ⟨a, b, k, hk⟩ := h2 hn
  have hp : (0 : Int) < 2 ^ n.toNat := Int.pow_pos (by decide)
  have e1 : B * 2 ^ (n.toNat + 1) = B * 2 ^ n.toNat + B * 2 ^ n.toNat := by rw [Int.pow_succ, ← Int.mul_assoc]; omega
  refine ⟨by rw [Int.add_mul, Int.mul_comm (2 ^ n.toNat) B]; omega, by omega, by omega, ?_, ?_⟩
  · intro h0
    obtain rfl : n = 0 := by omega
    simp at e1 ⊢ a hge
    omega
  · intro h0
    rw [show (n - 1).toNat + 1 = n.toNat by omega]
    refine ⟨by omega, ?_, ⟨2 * k + 1, by rw [hk, Int.pow_succ, Int.mul_add, Int.mul_assoc, Int.mul_one]⟩⟩
    have e2 : B * 2 ^ n.toNat = B * 2 ^ (n - 1).toNat + B * 2 ^ (n - 1).toNat := by rw [show n.toNat = (n - 1).toNat + 1 by omega, Int.pow_succ, ← Int.mul_assoc]; omega
    have := Int.mul_pos hB (Int.pow_pos (by decide) : (0 : Int) < 2 ^ (n - 1).toNat)
    omega
theorem inv_no {A B n R q : Int} (h : Inv A B n R q) (hB : 0 < B) (hn : 0 ≤ n) (hlt : R < B * 2 ^ n.toNat) : Inv A B (n - 1) R q := by
  obtain ⟨e, r0, q0, _, h2⟩ := h
  obtain ⟨a, b, k, hk⟩ := h2 hn
  refine ⟨e, r0, q0, ?_, ?_⟩
  · intro h0
    obtain rfl : n = 0 := by omega
    simpa using hlt
  · intro h0
    rw [show (n - 1).toNat + 1 = n.toNat by omega]
    refine ⟨hlt, ?_, ⟨2 * k, by rw [hk, Int.pow_succ, Int.mul_assoc]⟩⟩
    have e2 : B * 2 ^ n.toNat = B * 2 ^ (n - 1).toNat + B * 2 ^ (n - 1).toNat := by rw [show n.toNat = (n - 1).toNat + 1 by omega, Int.pow_succ, ← Int.mul_assoc]; omega
    have := Int.mul_pos hB (Int.pow_pos (by decide) : (0 : Int) < 2 ^ (n - 1).toNat)
    omega
theorem inv_end {A B n R q : Int} (h : Inv A B n R q) (hB : 0 < B) (hn : n < 0) : q = A / B ∧ R = A % B := by
  obtain ⟨e, r0, q0, h1, _⟩ := h
  have := h1 hn
  have d := Int.ediv_emod_unique (a := A) (b := B) (r := R) (q := q) hB
  have := d.2 ⟨by rw [Int.mul_comm]; omega, r0, this⟩
  exact ⟨this.1.symm, this.2.symm⟩
theorem inv_bd {A B n R q : Int} (h : Inv A B n R q) (hA : A < TOP) (hB : 0 < B) : R < TOP ∧ q ≤ A ∧ R ≤ A := by
  obtain ⟨e, r0, q0, _, _⟩ := h
  have h1 : q * 1 ≤ q * B := Int.mul_le_mul_of_nonneg_left (by omega) q0
  rw [Int.mul_one] at h1
  omega
theorem set_bit0 {q x S : Int} (hq : q = 1 * x) (hx : 0 ≤ x) (hS : 0 ≤ S) (hf : x % 18446744073709551616 + S ≤ 18446744073709551615) : wd0 (q + 1 * S) = wd0 q + S ∧ wd1 (q + 1 * S) = wd1 q ∧ wd2 (q + 1 * S) = wd2 q ∧ wd3 (q + 1 * S) = wd3 q ∧ wd4 (q + 1 * S) = wd4 q ∧ wd5 (q + 1 * S) = wd5 q ∧ wd0 q = x % 18446744073709551616 := by
  subst hq
  unfold wd0 wd1 wd2 wd3 wd4 wd5
  refine ⟨?_, ?_, ?_, ?_, ?_, ?_, ?_⟩ <;> omega
theorem set_bit1 {q x S : Int} (hq : q = 18446744073709551616 * x) (hx : 0 ≤ x) (hS : 0 ≤ S) (hf : x % 18446744073709551616 + S ≤ 18446744073709551615) : wd0 (q + 18446744073709551616 * S) = wd0 q ∧ wd1 (q + 18446744073709551616 * S) = wd1 q + S ∧ wd2 (q + 18446744073709551616 * S) = wd2 q ∧ wd3 (q + 18446744073709551616 * S) = wd3 q ∧ wd4 (q + 18446744073709551616 * S) = wd4 q ∧ wd5 (q + 18446744073709551616 * S) = wd5 q ∧ wd1 q = x % 18446744073709551616 := by
  subst hq
  unfold wd0 wd1 wd2 wd3 wd4 wd5
  refine ⟨?_, ?_, ?_, ?_, ?_, ?_, ?_⟩ <;> omega
theorem set_bit2 {q x S : Int} (hq : q = 340282366920938463463374607431768211456 * x) (hx : 0 ≤ x) (hS : 0 ≤ S) (hf : x % 18446744073709551616 + S ≤ 18446744073709551615) : wd0 (q + 340282366920938463463374607431768211456 * S) = wd0 q ∧ wd1 (q + 340282366920938463463374607431768211456 * S) = wd1 q ∧ wd2 (q + 340282366920938463463374607431768211456 * S) = wd2 q + S ∧ wd3 (q + 340282366920938463463374607431768211456 * S) = wd3 q ∧ wd4 (q + 340282366920938463463374607431768211456 * S) = wd4 q ∧ wd5 (q + 340282366920938463463374607431768211456 * S) = wd5 q ∧ wd2 q = x % 18446744073709551616 := by
  subst hq
  unfold wd0 wd1 wd2 wd3 wd4 wd5
  refine ⟨?_, ?_, ?_, ?_, ?_, ?_, ?_⟩ <;> omega
theorem set_bit3 {q x S : Int} (hq : q = 6277101735386680763835789423207666416102355444464034512896 * x) (hx : 0 ≤ x) (hS : 0 ≤ S) (hf : x % 18446744073709551616 + S ≤ 18446744073709551615) : wd0 (q + 6277101735386680763835789423207666416102355444464034512896 * S) = wd0 q ∧ wd1 (q + 6277101735386680763835789423207666416102355444464034512896 * S) = wd1 q ∧ wd2 (q + 6277101735386680763835789423207666416102355444464034512896 * S) = wd2 q ∧ wd3 (q + 6277101735386680763835789423207666416102355444464034512896 * S) = wd3 q + S ∧ wd4 (q + 6277101735386680763835789423207666416102355444464034512896 * S) = wd4 q ∧ wd5 (q + 6277101735386680763835789423207666416102355444464034512896 * S) = wd5 q ∧ wd3 q = x % 18446744073709551616 := by
  subst hq
  unfold wd0 wd1 wd2 wd3 wd4 wd5
  refine ⟨?_, ?_, ?_, ?_, ?_, ?_, ?_⟩ <;> omega
theorem set_bit4 {q x S : Int} (hq : q = 115792089237316195423570985008687907853269984665640564039457584007913129639936 * x) (hx : 0 ≤ x) (hS : 0 ≤ S) (hf : x % 18446744073709551616 + S ≤ 18446744073709551615) : wd0 (q + 115792089237316195423570985008687907853269984665640564039457584007913129639936 * S) = wd0 q ∧ wd1 (q + 115792089237316195423570985008687907853269984665640564039457584007913129639936 * S) = wd1 q ∧ wd2 (q + 115792089237316195423570985008687907853269984665640564039457584007913129639936 * S) = wd2 q ∧ wd3 (q + 115792089237316195423570985008687907853269984665640564039457584007913129639936 * S) = wd3 q ∧ wd4 (q + 115792089237316195423570985008687907853269984665640564039457584007913129639936 * S) = wd4 q + S ∧ wd5 (q + 115792089237316195423570985008687907853269984665640564039457584007913129639936 * S) = wd5 q ∧ wd4 q = x % 18446744073709551616 := by
  subst hq
  unfold wd0 wd1 wd2 wd3 wd4 wd5
  refine ⟨?_, ?_, ?_, ?_, ?_, ?_, ?_⟩ <;> omega
theorem set_bit5 {q x S : Int} (hq : q = 2135987035920910082395021706169552114602704522356652769947041607822219725780640550022962086936576 * x) (hx : 0 ≤ x) (hS : 0 ≤ S) (hf : x % 18446744073709551616 + S ≤ 18446744073709551615) : wd0 (q + 2135987035920910082395021706169552114602704522356652769947041607822219725780640550022962086936576 * S) = wd0 q ∧ wd1 (q + 2135987035920910082395021706169552114602704522356652769947041607822219725780640550022962086936576 * S) = wd1 q ∧ wd2 (q + 2135987035920910082395021706169552114602704522356652769947041607822219725780640550022962086936576 * S) = wd2 q ∧ wd3 (q + 2135987035920910082395021706169552114602704522356652769947041607822219725780640550022962086936576 * S) = wd3 q ∧ wd4 (q + 2135987035920910082395021706169552114602704522356652769947041607822219725780640550022962086936576 * S) = wd4 q ∧ wd5 (q + 2135987035920910082395021706169552114602704522356652769947041607822219725780640550022962086936576 * S) = wd5 q + S ∧ wd5 q = x % 18446744073709551616 := by
  subst hq
  unfold wd0 wd1 wd2 wd3 wd4 wd5
  refine ⟨?_, ?_, ?_, ?_, ?_, ?_, ?_⟩ <;> omega
theorem bit_word {n q k : Int} (n0 : 0 ≤ n) (q0 : 0 ≤ q) (hk : q = 2 ^ (n.toNat + 1) * k) {W : Nat} (hW : n / 64 = W) {P : Int} (hP : (2 : Int) ^ (64 * W) = P) :
    ∃ x s : Int, s = n % 64 ∧ 0 ≤ s ∧ s ≤ 63 ∧ q = P * x ∧ 0 ≤ x ∧ 2 ^ n.toNat = P * 2 ^ s.toNat ∧ 0 < (2 : Int) ^ s.toNat ∧ (2 : Int) ^ s.toNat ≤ 9223372036854775808 ∧ x % 18446744073709551616 + 2 ^ s.toNat ≤ 18446744073709551615 ∧ (x % 18446744073709551616) % 2 ^ (s.toNat + 1) = 0 := by
  obtain ⟨s, hs⟩ : ∃ s : Nat, (s : Int) = n % 64 := ⟨(n % 64).toNat, by omega⟩
  have hs63 : s ≤ 63 := by omega
  have en : n.toNat = 64 * W + s := by omega
  have hp : (0 : Int) < 2 ^ s := Int.pow_pos (by decide)
  have hp1 : (0 : Int) < 2 ^ (s + 1) := Int.pow_pos (by decide)
  have hP0 : (0 : Int) < P := by rw [← hP]; exact Int.pow_pos (by decide)
  have e64 : (2 : Int) ^ (s + 1) * 2 ^ (63 - s) = 18446744073709551616 := by rw [← Int.pow_add, show s + 1 + (63 - s) = 64 by omega]; decide
  have e63 : (2 : Int) ^ s * 2 ^ (63 - s) = 9223372036854775808 := by rw [← Int.pow_add, show s + (63 - s) = 63 by omega]; decide
  have hr : (0 : Int) < 2 ^ (63 - s) := Int.pow_pos (by decide)
  have hq : q = P * (2 ^ (s + 1) * k) := by rw [hk, en, show 64 * W + s + 1 = 64 * W + (s + 1) by omega, Int.pow_add, hP, Int.mul_assoc]
  have hm : 2 ^ (s + 1) * k % 18446744073709551616 = 2 ^ (s + 1) * (k % 2 ^ (63 - s)) := by rw [← e64]; exact Int.mul_emod_mul_of_pos _ _ hp1
  have hx : 0 ≤ 2 ^ (s + 1) * k := by
    apply Int.le_of_not_gt; intro hneg
    have := Int.mul_lt_mul_of_pos_left hneg hP0
    rw [← hq, Int.mul_zero] at this; omega
  refine ⟨2 ^ (s + 1) * k, s, hs, by omega, by omega, hq, hx, ?_, ?_, ?_, ?_, ?_⟩
  · rw [Int.toNat_natCast, en, Int.pow_add, hP]
  · rw [Int.toNat_natCast]; exact hp
  · rw [Int.toNat_natCast, ← e63]
    have := Int.mul_le_mul_of_nonneg_left (show (1 : Int) ≤ 2 ^ (63 - s) by omega) (Int.le_of_lt hp)
    omega
  · rw [Int.toNat_natCast, hm]
    have b1 := Int.emod_lt_of_pos k hr
    have b2 := Int.mul_le_mul_of_nonneg_left (show k % 2 ^ (63 - s) ≤ 2 ^ (63 - s) - 1 by omega) (Int.le_of_lt hp1)
    rw [Int.mul_sub, Int.mul_one, e64] at b2
    have b3 : (2 : Int) ^ (s + 1) = 2 ^ s + 2 ^ s := by rw [Int.pow_succ]; omega
    omega
  · rw [Int.toNat_natCast, hm]; exact Int.mul_emod_right _ _
theorem or_bit {x s : Int} (s0 : 0 ≤ s) (s1 : s ≤ 63) (hp : 0 < (2 : Int) ^ s.toNat) (hl : (2 : Int) ^ s.toNat ≤ 9223372036854775808) (hf : x % 18446744073709551616 + 2 ^ s.toNat ≤ 18446744073709551615) (hd : (x % 18446744073709551616) % 2 ^ (s.toNat + 1) = 0) :
    lor .u64 (x % 18446744073709551616) (IntKind.u64.wrap (2 ^ s.toNat)) = x % 18446744073709551616 + 2 ^ s.toNat := by
  rw [wu, Int.emod_eq_of_lt (a := 2 ^ s.toNat) (b := 18446744073709551616) (by omega) (by omega)]
  have e : (2 : Int) ^ (s.toNat + 1) = 2 ^ s.toNat + 2 ^ s.toNat := by rw [Int.pow_succ]; omega
  exact bits_join .u64 64 (by decide) wraps64 (s.toNat + 1) _ _ (by omega) hd (by omega) (by omega) (by omega) (by omega)

def tl (n : Int) : List Int := [wd0 n, wd1 n, wd2 n, wd3 n, wd4 n, wd5 n]
theorem set_tl {n q k : Int} (n0 : 0 ≤ n) (n1 : n ≤ 383) (q0 : 0 ≤ q) (hk : q = 2 ^ (n.toNat + 1) * k) :
    (tl q).set (n.fdiv 64).toNat (lor .u64 (nth 0 (tl q) (n.fdiv 64).toNat) (IntKind.u64.wrap (1 * 2 ^ min (IntKind.u64.wrap (land .i64 n 63)).toNat 64))) = tl (q + 2 ^ n.toNat) := by
  rw [fd n 64 (by decide), and63 n n0 (by omega), uw (x := n % 64) (by omega) (by omega), show min (n % 64).toNat 64 = (n % 64).toNat by omega, Int.one_mul]
  rcases (show n / 64 = (0 : Nat) ∨ n / 64 = (1 : Nat) ∨ n / 64 = (2 : Nat) ∨ n / 64 = (3 : Nat) ∨ n / 64 = (4 : Nat) ∨ n / 64 = (5 : Nat) by omega) with hw | hw | hw | hw | hw | hw
  · obtain ⟨x, s, hs, s0, s1, hq, x0, hp, sp, sl, hf, hd⟩ := bit_word n0 q0 hk hw (P := 1) (by decide)
    obtain ⟨g0, g1, g2, g3, g4, g5, gx⟩ := set_bit0 hq x0 (Int.le_of_lt sp) hf
    have ho := or_bit s0 s1 sp sl hf hd
    rw [hw, ← hs, hp]
    simp only [tl, Int.toNat_natCast, nth, List.set_cons_succ, List.set_cons_zero, g0, g1, g2, g3, g4, g5]
    rw [gx, ho]
  · obtain ⟨x, s, hs, s0, s1, hq, x0, hp, sp, sl, hf, hd⟩ := bit_word n0 q0 hk hw (P := 18446744073709551616) (by decide)
    obtain ⟨g0, g1, g2, g3, g4, g5, gx⟩ := set_bit1 hq x0 (Int.le_of_lt sp) hf
    have ho := or_bit s0 s1 sp sl hf hd
    rw [hw, ← hs, hp]
    simp only [tl, Int.toNat_natCast, nth, List.set_cons_succ, List.set_cons_zero, g0, g1, g2, g3, g4, g5]
    rw [gx, ho]
  · obtain ⟨x, s, hs, s0, s1, hq, x0, hp, sp, sl, hf, hd⟩ := bit_word n0 q0 hk hw (P := 340282366920938463463374607431768211456) (by decide)
    obtain ⟨g0, g1, g2, g3, g4, g5, gx⟩ := set_bit2 hq x0 (Int.le_of_lt sp) hf
    have ho := or_bit s0 s1 sp sl hf hd
    rw [hw, ← hs, hp]
    simp only [tl, Int.toNat_natCast, nth, List.set_cons_succ, List.set_cons_zero, g0, g1, g2, g3, g4, g5]
    rw [gx, ho]
  · obtain ⟨x, s, hs, s0, s1, hq, x0, hp, sp, sl, hf, hd⟩ := bit_word n0 q0 hk hw (P := 6277101735386680763835789423207666416102355444464034512896) (by decide)
    obtain ⟨g0, g1, g2, g3, g4, g5, gx⟩ := set_bit3 hq x0 (Int.le_of_lt sp) hf
    have ho := or_bit s0 s1 sp sl hf hd
    rw [hw, ← hs, hp]
    simp only [tl, Int.toNat_natCast, nth, List.set_cons_succ, List.set_cons_zero, g0, g1, g2, g3, g4, g5]
    rw [gx, ho]
  · obtain ⟨x, s, hs, s0, s1, hq, x0, hp, sp, sl, hf, hd⟩ := bit_word n0 q0 hk hw (P := 115792089237316195423570985008687907853269984665640564039457584007913129639936) (by decide)
    obtain ⟨g0, g1, g2, g3, g4, g5, gx⟩ := set_bit4 hq x0 (Int.le_of_lt sp) hf
    have ho := or_bit s0 s1 sp sl hf hd
    rw [hw, ← hs, hp]
    simp only [tl, Int.toNat_natCast, nth, List.set_cons_succ, List.set_cons_zero, g0, g1, g2, g3, g4, g5]
    rw [gx, ho]
  · obtain ⟨x, s, hs, s0, s1, hq, x0, hp, sp, sl, hf, hd⟩ := bit_word n0 q0 hk hw (P := 2135987035920910082395021706169552114602704522356652769947041607822219725780640550022962086936576) (by decide)
    obtain ⟨g0, g1, g2, g3, g4, g5, gx⟩ := set_bit5 hq x0 (Int.le_of_lt sp) hf
    have ho := or_bit s0 s1 sp sl hf hd
    rw [hw, ← hs, hp]
    simp only [tl, Int.toNat_natCast, nth, List.set_cons_succ, List.set_cons_zero, g0, g1, g2, g3, g4, g5]
    rw [gx, ho]
set_option maxRecDepth 10000 in
theorem quo_loop {K : Nat} (hK : 7 ≤ K) {A B : Int} (hA : 0 ≤ A ∧ A < TOP) (hB : 0 < B ∧ B < TOP) (l4 l5 : List Int) : ∀ (k : Nat) (n R q : Int), Inv A B n R q → n ≤ 383 → (n + 1).toNat < k → F.wI_Quo_l3 K k n (tl R) (tl B) l4 l5 (tl q) = some (tl (A % B), l4, l5, tl (A / B))
  | 0, n, R, q, hI, hn, hk => by omega
  | k + 1, n, R, q, hI, hn, hk => by
    rw [F.wI_Quo_l3]
    have hk' : 0 ≤ n → (n - 1 + 1).toNat < k := fun h => by clear hI; omega
    by_cases n0 : n ≥ 0
    · have n0' : 0 ≤ n := n0
      obtain ⟨hbR, hbq, hbR'⟩ := inv_bd hI hA.2 hB.1
      obtain ⟨i1, R0, q0, i4, i5⟩ := id hI
      obtain ⟨j1, hT1, kk, hkk⟩ := i5 n0'
      have hp : (0 : Int) < 2 ^ n.toNat := Int.pow_pos (by decide)
      have hT0 : 0 ≤ B * 2 ^ n.toNat := Int.mul_nonneg (by omega) (by omega)
      have e1 := left_ok hK (words_tup B) n0' hn
      rw [val_tup (by omega) hB.2, Int.emod_eq_of_lt hT0 hT1] at e1
      have e2 := cmp_ok hK (words_tup R) (words_tup (B * 2 ^ n.toNat))
      rw [val_tup R0 hbR, val_tup hT0 hT1] at e2
      have hd : ¬ (n < 0) := by omega
      by_cases hge : B * 2 ^ n.toNat ≤ R
      · have e3 := sub_ok hK (words_tup R) (words_tup (B * 2 ^ n.toNat))
        rw [val_tup R0 hbR, val_tup hT0 hT1, Int.emod_eq_of_lt (by omega) (by omega)] at e3
        have ec : cmp3 R (B * 2 ^ n.toNat) ≥ 0 := by unfold cmp3; rw [if_neg (by omega)]; split <;> omega
        have st := set_tl n0' hn q0 hkk
        have ih := quo_loop hK hA hB l4 l5 k (n - 1) (R - B * 2 ^ n.toNat) (q + 2 ^ n.toNat) (inv_yes hI hB.1 n0' hge) (by omega) (hk' n0')
        have hw : 0 ≤ n.fdiv 64 ∧ n.fdiv 64 < 6 ∧ (n.fdiv 64).toNat < 6 := by rw [fd n 64 (by decide)]; omega
        have hl : ¬ IntKind.u64.wrap (land .i64 n 63) < 0 := by rw [and63 n n0' (by omega), uw (by omega) (by omega)]; omega
        rw [iw (by omega) (by omega)]
        rw [← st] at ih
        simp [tl, nth] at e1 e2 e3 ih ⊢
        simp [n0', e1, tup, e2, ec, e3, hw, hl, ih]
      · have ec : ¬ cmp3 R (B * 2 ^ n.toNat) ≥ 0 := by unfold cmp3; rw [if_pos (by omega)]; omega
        have ih := quo_loop hK hA hB l4 l5 k (n - 1) R q (inv_no hI hB.1 n0' (by omega)) (by omega) (hk' n0')
        rw [iw (by omega) (by omega)]
        simp [tl, nth] at e1 e2 ih ⊢
        simp [n0', e1, tup, e2, ec, ih]
    · obtain ⟨rfl, rfl⟩ := inv_end hI hB.1 (by omega)
      simp [n0]
theorem words_tl {a0 a1 a2 a3 a4 a5 : Int} (h : Words a0 a1 a2 a3 a4 a5) : [a0, a1, a2, a3, a4, a5] = tl (val a0 a1 a2 a3 a4 a5) := by
  have e := tup_val h
  simp only [tup, Prod.mk.injEq] at e
  obtain ⟨e0, e1, e2, e3, e4, e5⟩ := e
  rw [tl, e0, e1, e2, e3, e4, e5]
theorem mm (a b m : Int) : a % m * b % m = a * b % m := by
  rw [Int.mul_emod (a % m) b, Int.emod_emod_of_dvd a (Int.dvd_refl m), ← Int.mul_emod]
theorem tl0 : tl 0 = [0, 0, 0, 0, 0, 0] := by decide
def tup2 (q r : Int) : Int × Int × Int × Int × Int × Int × Int × Int × Int × Int × Int × Int := (wd0 q, wd1 q, wd2 q, wd3 q, wd4 q, wd5 q, wd0 r, wd1 r, wd2 r, wd3 r, wd4 r, wd5 r)
set_option maxRecDepth 10000 in
theorem quo_ok {K : Nat} (hK : 400 ≤ K) {a0 a1 a2 a3 a4 a5 b0 b1 b2 b3 b4 b5 : Int} (ha : Words a0 a1 a2 a3 a4 a5) (hb : Words b0 b1 b2 b3 b4 b5) (h0 : 0 < val b0 b1 b2 b3 b4 b5) :
    F.wI_Quo K a0 a1 a2 a3 a4 a5 b0 b1 b2 b3 b4 b5 = some (tup2 (val a0 a1 a2 a3 a4 a5 / val b0 b1 b2 b3 b4 b5) (val a0 a1 a2 a3 a4 a5 % val b0 b1 b2 b3 b4 b5)) := by
  have bA := val_bd ha
  have bB := val_bd hb
  have l1 := len_ok (by omega : 7 ≤ K) ha
  have l2 := len_ok (by omega : 7 ≤ K) hb
  have hl1 : 0 ≤ blen (val a0 a1 a2 a3 a4 a5) ∧ blen (val a0 a1 a2 a3 a4 a5) ≤ 384 := blen_lt (n := 384) (by rw [p384]; exact bA.2)
  have hl2 : 0 ≤ blen (val b0 b1 b2 b3 b4 b5) ∧ blen (val b0 b1 b2 b3 b4 b5) ≤ 384 := blen_lt (n := 384) (by rw [p384]; exact bB.2)
  have hl3 : 1 ≤ blen (val b0 b1 b2 b3 b4 b5) := by obtain ⟨m, e, _⟩ := blen_spec h0; omega
  have key := quo_loop (by omega : 7 ≤ K) bA ⟨h0, bB.2⟩ [0, 0, 0, 0, 0, 0] [0, 0, 0, 0, 0, 0] K _ _ _ (inv_start bA ⟨h0, bB.2⟩) (by omega) (by omega)
  rw [← words_tl ha, ← words_tl hb, tl0] at key
  unfold F.wI_Quo
  rw [l1, oB, l2, oB, iw (by omega) (by omega), key]
  simp [tl, nth, tup2]
set_option maxRecDepth 10000 in
theorem ten_loop {K : Nat} (hK : 7 ≤ K) (l2 : List Int) : ∀ (k : Nat) (N i : Nat) (hN : N ≤ 100) (hi : i ≤ N), N - i < k → F.wide_Ten_l3 K k N i l2 (tl (10 ^ i % TOP)) = some (l2, tl (10 ^ N % TOP))
  | 0, N, i, hN, hi, hk => by omega
  | k + 1, N, i, hN, hi, hk => by
    rw [F.wide_Ten_l3]
    have hT : (0 : Int) < TOP := by decide
    by_cases c : i < N
    · have c' : (i : Int) < (N : Int) := by omega
      have e := mul_ok hK (words_tup (10 ^ i % TOP)) (b0 := 10) (b1 := 0) (b2 := 0) (b3 := 0) (b4 := 0) (b5 := 0) (by decide)
      rw [val_tup (Int.emod_nonneg _ (by decide)) (Int.emod_lt_of_pos _ hT), show val 10 0 0 0 0 0 = 10 by decide, mm, ← Int.pow_succ] at e
      have ih := ten_loop hK l2 k N (i + 1) hN c (by omega)
      rw [iw (by omega) (by omega), show (i : Int) + 1 = ((i + 1 : Nat) : Int) by omega]
      simp [tl, nth] at e ih ⊢
      simp [c', e, tup, ih]
      omega
    · obtain rfl : i = N := by omega
      simp
set_option maxRecDepth 10000 in
theorem ten_ok {K : Nat} (hK : 400 ≤ K) {n : Int} (h0 : 0 ≤ n) (h1 : n ≤ 100) : F.wide_Ten K n = some (tup (10 ^ n.toNat % TOP)) := by
  obtain ⟨N, rfl⟩ := Int.eq_ofNat_of_zero_le h0
  have key := ten_loop (by omega : 7 ≤ K) [0, 0, 0, 0, 0, 0] K N 0 (by omega) (by omega) (by omega)
  rw [show (10 : Int) ^ 0 % TOP = 1 by decide, show tl 1 = [1, 0, 0, 0, 0, 0] by decide] at key
  have key' : F.wide_Ten_l3 K K (N : Int) 0 [0, 0, 0, 0, 0, 0] [1, 0, 0, 0, 0, 0] = _ := key
  unfold F.wide_Ten
  rw [key']
  simp [tl, nth, tup]
end Go.Proofs.Ytimhhefngigfeaa.Wide

namespace Go.Proofs.Ytimhhefngigfeaa.Wide
open Go Go.RowKit Go.Proofs.Ytimhhefngigfeaa.Vm
theorem xor_max {x : Int} (h0 : 0 ≤ x) (h1 : x ≤ 18446744073709551615) : lxor .u64 18446744073709551615 x = 18446744073709551615 - x := by
  obtain ⟨n, rfl⟩ := Int.eq_ofNat_of_zero_le h0
  have hn : n < 2 ^ 64 := by omega
  show IntKind.u64.wrap (((BitVec.ofInt 64 18446744073709551615) ^^^ (BitVec.ofInt 64 (n : Int))).toNat : Int) = _
  have e : BitVec.ofInt 64 18446744073709551615 = BitVec.allOnes 64 := by decide
  rw [e, BitVec.allOnes_xor, BitVec.ofInt_natCast, BitVec.toNat_not, BitVec.toNat_ofNat, Nat.mod_eq_of_lt hn, wu]
  omega
def cf (hi lo : Int) : Int := hi * 18446744073709551616 + lo
def siz (hi lo : Int) : Int := if hi < 0 then -(cf hi lo) else cf hi lo
def I64 (x : Int) : Prop := -9223372036854775808 ≤ x ∧ x ≤ 9223372036854775807
instance (x : Int) : Decidable (I64 x) := by unfold I64; infer_instance
theorem siz_bd {hi lo : Int} (h : I64 hi) (l : Word lo) : 0 ≤ siz hi lo ∧ siz hi lo ≤ 170141183460469231731687303715884105728 := by
  unfold siz cf I64 Word at *
  split <;> omega
theorem blen_le {x : Int} {n : Nat} (h : blen x ≤ n) : x < 2 ^ n := by
  by_cases c : 0 < x
  · obtain ⟨m, e, a, b⟩ := blen_spec c
    have := pow_le (show m + 1 ≤ n by omega)
    omega
  · have := (Int.pow_pos (by decide) : (0 : Int) < 2 ^ n)
    omega
theorem p127 : (2 : Int) ^ 127 = 170141183460469231731687303715884105728 := by decide
theorem blen_zero {x : Int} (h : 0 ≤ x) : blen x = 0 ↔ x = 0 := by
  constructor
  · intro e
    by_cases c : 0 < x
    · obtain ⟨n, en, _, _⟩ := blen_spec c
      omega
    · omega
  · rintro rfl; rfl
def moreB (mode k a0 : Int) (m : Bool) : Bool := if mode = 0 then false else if mode = 1 then true else if mode = 2 then m else if mode = 3 then !m else if mode = 4 then decide (0 ≤ k) else if mode = 5 then decide (0 < k) else (decide (0 < k) || (decide (k = 0) && decide (a0 % 2 = 1)))
def togD (m : Bool) (S sc : Int) : Int × Int × Int × Int := if S < 170141183460469231731687303715884105728 then ((if m = true then -S else S) / 18446744073709551616, (if m = true then -S else S) % 18446744073709551616, sc, 0) else (0, 0, 0, 4)
def roundS (m : Bool) (A B mode : Int) : Int := A / B + (if A % B = 0 then 0 else if moreB mode (cmp3 (A % B * 2) B) (wd0 (A / B)) m = true then 1 else 0)
def T254 : Int := 28948022309329048855892746252171976963317496166410141009864396001978282409984
def p10z (k : Int) : Int := 10 ^ k.toNat
theorem p10z_bd {k : Int} (h0 : 0 ≤ k) (h1 : k ≤ 36) : 1 ≤ p10z k ∧ p10z k ≤ 1000000000000000000000000000000000000 := by
  unfold p10z
  have a : (0 : Int) < 10 ^ k.toNat := Int.pow_pos (by decide)
  have b : (10 : Int) ^ k.toNat ≤ 10 ^ 36 := by exact_mod_cast Nat.pow_le_pow_right (n := 10) (by decide) (show k.toNat ≤ 36 by omega)
  rw [show (10 : Int) ^ 36 = 1000000000000000000000000000000000000 from by decide] at b
  omega
def scaledS (m : Bool) (S hv wa mode : Int) : Int := if hv ≤ wa then roundS m (S * p10z (wa - hv)) 1 mode else roundS m S (p10z (hv - wa)) mode
def sgB (m : Bool) (S : Int) : Int := if m = true then -S else S
def pack (T sc : Int) : Int × Int × Int × Int := if -170141183460469231731687303715884105728 < T ∧ T < 170141183460469231731687303715884105728 then (T / 18446744073709551616, T % 18446744073709551616, sc, 0) else (0, 0, 0, 4)
theorem togD_pack {m : Bool} {S sc : Int} (h : 0 ≤ S) : togD m S sc = pack (sgB m S) sc := by
  unfold togD pack sgB
  cases m
  · simp only [Bool.false_eq_true, if_false]
    by_cases c : S < 170141183460469231731687303715884105728
    · rw [if_pos c, if_pos ⟨by omega, c⟩]
    · rw [if_neg c, if_neg (by omega)]
  · simp only [if_true]
    by_cases c : S < 170141183460469231731687303715884105728
    · rw [if_pos c, if_pos ⟨by omega, by omega⟩]
    · rw [if_neg c, if_neg (by omega)]

theorem of_ok (K : Nat) {hi lo : Int} (h : Word hi) (l : Word lo) : F.wide_Of K hi lo = some (tup (hi * 18446744073709551616 + lo)) := by
  have e := tup_val (a0 := lo) (a1 := hi) (a2 := 0) (a3 := 0) (a4 := 0) (a5 := 0) ⟨l, h, by decide, by decide, by decide, by decide⟩
  rw [show val lo hi 0 0 0 0 = hi * 18446744073709551616 + lo by unfold val; omega] at e
  unfold F.wide_Of
  rw [e]
def ntup (m : Bool) (n sc : Int) : Bool × Int × Int × Int × Int × Int × Int × Int := (m, wd0 n, wd1 n, wd2 n, wd3 n, wd4 n, wd5 n, sc)
theorem apart_ok (K : Nat) {hi lo sc : Int} (h : I64 hi) (l : Word lo) : F.dec_apart K hi lo sc = some (ntup (decide (hi < 0)) (siz hi lo) sc) := by
  unfold I64 at h
  have hl := l
  unfold Word at hl
  unfold F.dec_apart
  by_cases c : hi < 0
  · have ew : IntKind.u64.wrap hi = hi + 18446744073709551616 := by rw [wu]; omega
    have ex := xor_max (x := hi + 18446744073709551616) (by omega) (by omega)
    by_cases c0 : lo = 0
    · have e0 : IntKind.u64.wrap (-lo) = 0 := by rw [wu]; omega
      have e1 : IntKind.u64.wrap (18446744073709551615 - (hi + 18446744073709551616) + 1) = -hi := by rw [wu]; omega
      have eo := of_ok K (hi := -hi) (lo := 0) (by unfold Word; omega) (by decide)
      rw [show -hi * 18446744073709551616 + 0 = siz hi lo by unfold siz cf; rw [if_pos c]; omega] at eo
      simp [c, e0, ew, ex, e1, eo, tup, ntup]
    · have e0 : IntKind.u64.wrap (-lo) = 18446744073709551616 - lo := by rw [wu]; omega
      have en : ¬ (18446744073709551616 - lo = 0) := by omega
      have eo := of_ok K (hi := 18446744073709551615 - (hi + 18446744073709551616)) (lo := 18446744073709551616 - lo) (by unfold Word; omega) (by unfold Word; omega)
      rw [show (18446744073709551615 - (hi + 18446744073709551616)) * 18446744073709551616 + (18446744073709551616 - lo) = siz hi lo by unfold siz cf; rw [if_pos c]; omega] at eo
      simp [c, e0, ew, ex, en, eo, tup, ntup]
  · have ew : IntKind.u64.wrap hi = hi := by rw [wu]; omega
    have eo := of_ok K (hi := hi) (lo := lo) (by unfold Word; omega) l
    rw [show hi * 18446744073709551616 + lo = siz hi lo by unfold siz cf; rw [if_neg c]] at eo
    simp [c, ew, eo, tup, ntup]
theorem together_ok {K : Nat} (hK : 7 ≤ K) {m : Bool} {n sc : Int} (h0 : 0 ≤ n) (h1 : n < TOP) : F.dec_together K m (wd0 n) (wd1 n) (wd2 n) (wd3 n) (wd4 n) (wd5 n) sc = some (togD m n sc) := by
  have el := len_ok hK (words_tup n)
  rw [val_tup h0 h1] at el
  unfold F.dec_together togD
  rw [el]
  simp only [oB]
  by_cases c : n < 170141183460469231731687303715884105728
  · have hb : blen n ≤ 127 := (blen_lt (n := 127) (by rw [p127]; exact c)).2
    rw [if_neg (by simp; omega), if_pos c]
    have w0 : wd0 n = n % 18446744073709551616 := rfl
    have w1 : wd1 n = n / 18446744073709551616 := by unfold wd1; omega
    have w1b : 0 ≤ wd1 n ∧ wd1 n ≤ 9223372036854775807 := by rw [w1]; omega
    cases m with
    | false =>
      simp only [Bool.false_eq_true, if_false]
      rw [iw (x := wd1 n) (by omega) (by omega), w0, w1]
    | true =>
      simp only [↓reduceIte]
      rw [xor_max (by omega) (by omega)]
      by_cases c0 : n % 18446744073709551616 = 0
      · have e0 : IntKind.u64.wrap (0 - wd0 n) = 0 := by rw [wu, w0]; omega
        have e1 : IntKind.i64.wrap (IntKind.u64.wrap (18446744073709551615 - wd1 n + 1)) = -(wd1 n) := by rw [wi, wu]; omega
        rw [e0, e1, if_pos (by simp), w1]
        simp only [Option.some.injEq, Prod.mk.injEq]
        refine ⟨?_, ?_, trivial⟩ <;> omega
      · have e0 : IntKind.u64.wrap (0 - wd0 n) = 18446744073709551616 - n % 18446744073709551616 := by rw [wu, w0]; omega
        have e1 : IntKind.i64.wrap (18446744073709551615 - wd1 n) = -(wd1 n) - 1 := by rw [wi]; omega
        rw [e0, e1, if_neg (by simp; omega), w1]
        simp only [Option.some.injEq, Prod.mk.injEq]
        refine ⟨?_, ?_, trivial⟩ <;> omega
  · have hb : ¬ blen n ≤ 127 := fun h => c (by have := blen_le (n := 127) h; rwa [p127] at this)
    rw [if_pos (by simp; omega), if_neg c]
end Go.Proofs.Ytimhhefngigfeaa.Wide

namespace Go.Proofs.Ytimhhefngigfeaa.Wide
open Go Go.RowKit Go.Proofs.Ytimhhefngigfeaa.Vm
theorem mask1 (x : Int) (h0 : 0 ≤ x) (h1 : x < 18446744073709551616) : land .u64 x 1 = x % 2 :=
  bits_mask .u64 64 (by decide) wraps64 1 (by decide) x h0 h1
theorem more_ok {K : Nat} (hK : 7 ≤ K) {mode q r d : Int} {m : Bool} (r0 : 0 ≤ r) (r1 : r * 2 < TOP) (d0 : 0 ≤ d) (d1 : d < TOP) :
    F.dec_more K mode m (wd0 q) (wd1 q) (wd2 q) (wd3 q) (wd4 q) (wd5 q) (wd0 r) (wd1 r) (wd2 r) (wd3 r) (wd4 r) (wd5 r) (wd0 d) (wd1 d) (wd2 d) (wd3 d) (wd4 d) (wd5 d) = some (if r = 0 then false else moreB mode (cmp3 (r * 2) d) (wd0 q) m) := by
  have el := len_ok hK (words_tup r)
  rw [val_tup r0 (by omega)] at el
  have es := left_ok hK (words_tup r) (n := 1) (by decide) (by decide)
  rw [val_tup r0 (by omega), show (2 : Int) ^ (1 : Int).toNat = 2 by decide, Int.emod_eq_of_lt (by omega) r1] at es
  have ec := cmp_ok hK (words_tup (r * 2)) (words_tup d)
  rw [val_tup (by omega) r1, val_tup d0 d1] at ec
  have wq : 0 ≤ wd0 q ∧ wd0 q < 18446744073709551616 := by unfold wd0; omega
  unfold F.dec_more
  simp only [el, es, tup, oB, ec, mask1 _ wq.1 wq.2]
  by_cases c : r = 0
  · have : blen r = 0 := (blen_zero r0).2 c
    rw [this]
    simp [c]
  · have : ¬ blen r = 0 := fun h => c ((blen_zero r0).1 h)
    have hc : cmp3 (r * 2) d = -1 ∨ cmp3 (r * 2) d = 0 ∨ cmp3 (r * 2) d = 1 := by unfold cmp3; split <;> (try split) <;> simp
    generalize cmp3 (r * 2) d = k at *
    have e2 : ∀ b : Int, (b % 2 == 1) = decide (b % 2 = 1) := fun b => rfl
    simp only [moreB, c, if_false, beq_iff_eq, this, decide_eq_true_eq]
    by_cases m0 : mode = 0
    · simp [m0]
    by_cases m1 : mode = 1
    · simp [m1]
    by_cases m2 : mode = 2
    · simp [m2]
    by_cases m3 : mode = 3
    · simp [m3]
    by_cases m4 : mode = 4
    · simp [m4]
    by_cases m5 : mode = 5
    · simp [m5]
    simp only [m0, m1, m2, m3, m4, m5, if_false, e2]
    rcases hc with rfl | rfl | rfl <;> simp
theorem rounded_ok {K : Nat} (hK : 400 ≤ K) {mode n d sc : Int} {m : Bool} (n0 : 0 ≤ n) (n1 : n + 1 < TOP) (d0 : 0 < d) (d1 : d * 2 < TOP) :
    F.dec_rounded K m (wd0 n) (wd1 n) (wd2 n) (wd3 n) (wd4 n) (wd5 n) (wd0 d) (wd1 d) (wd2 d) (wd3 d) (wd4 d) (wd5 d) sc mode = some (togD m (roundS m n d mode) sc) := by
  have h7 : 7 ≤ K := by omega
  have eq := quo_ok hK (words_tup n) (words_tup d) (by rw [val_tup (by omega) (by omega)]; exact d0)
  rw [val_tup n0 (by omega), val_tup (by omega) (by omega)] at eq
  have q0 : 0 ≤ n / d := Int.ediv_nonneg n0 (by omega)
  have q1 : n / d ≤ n := Int.ediv_le_self d n0
  have r0 : 0 ≤ n % d := Int.emod_nonneg n (by omega)
  have r1 : n % d < d := Int.emod_lt_of_pos n d0
  have em := more_ok (mode := mode) (q := n / d) (m := m) h7 r0 (show n % d * 2 < TOP by omega) (by omega : 0 ≤ d) (by omega)
  unfold F.dec_rounded
  simp only [eq, oB, tup2, em]
  unfold roundS
  by_cases c : n % d = 0
  · have et := together_ok (m := m) (sc := sc) h7 q0 (by omega : n / d < TOP)
    simp [c, et]
  · by_cases b : moreB mode (cmp3 (n % d * 2) d) (wd0 (n / d)) m = true
    · have ea := add_ok h7 (words_tup (n / d)) (b0 := 1) (b1 := 0) (b2 := 0) (b3 := 0) (b4 := 0) (b5 := 0) (by decide)
      rw [val_tup q0 (by omega), show val 1 0 0 0 0 0 = 1 by decide, Int.emod_eq_of_lt (by omega) (by omega)] at ea
      have et := together_ok (m := m) (sc := sc) h7 (show 0 ≤ n / d + 1 by omega) (by omega : n / d + 1 < TOP)
      simp [c, b, ea, tup, et]
    · have et := together_ok (m := m) (sc := sc) h7 q0 (by omega : n / d < TOP)
      simp [c, b, et]
theorem ten_num {K : Nat} (hK : 400 ≤ K) {k : Int} (h0 : 0 ≤ k) (h1 : k ≤ 36) : F.wide_Ten K k = some (tup (p10z k)) := by
  have b := p10z_bd h0 h1
  rw [ten_ok hK h0 (by omega)]
  show some (tup (p10z k % TOP)) = _
  rw [Int.emod_eq_of_lt (by omega) (by unfold TOP; omega)]
theorem mul_num {K : Nat} (hK : 7 ≤ K) {A B : Int} (a0 : 0 ≤ A) (a1 : A < TOP) (b0 : 0 ≤ B) (b1 : B < TOP) (h : A * B < TOP) :
    F.wI_Mul K (wd0 A) (wd1 A) (wd2 A) (wd3 A) (wd4 A) (wd5 A) (wd0 B) (wd1 B) (wd2 B) (wd3 B) (wd4 B) (wd5 B) = some (tup (A * B)) := by
  have e := mul_ok hK (words_tup A) (words_tup B)
  rw [val_tup a0 a1, val_tup b0 b1, Int.emod_eq_of_lt (Int.mul_nonneg a0 b0) h] at e
  exact e
theorem wd_one : wd0 1 = 1 ∧ wd1 1 = 0 ∧ wd2 1 = 0 ∧ wd3 1 = 0 ∧ wd4 1 = 0 ∧ wd5 1 = 0 := by decide
theorem scaled_ok {K : Nat} (hK : 400 ≤ K) {n f s mode : Int} {m : Bool} (n0 : 0 ≤ n) (n1 : n ≤ T254) (f0 : 0 ≤ f) (f1 : f ≤ 36) (s0 : 0 ≤ s) (s1 : s ≤ 18) :
    F.dec_scaled K m (wd0 n) (wd1 n) (wd2 n) (wd3 n) (wd4 n) (wd5 n) f s mode = some (togD m (scaledS m n f s mode) s) := by
  have h7 : 7 ≤ K := by omega
  unfold F.dec_scaled scaledS
  by_cases c : f ≤ s
  · have b := p10z_bd (k := s - f) (by omega) (by omega)
    have hb : n * p10z (s - f) ≤ T254 * 1000000000000000000000000000000000000 := Int.mul_le_mul n1 b.2 (by omega) (by decide)
    have hm0 : 0 ≤ n * p10z (s - f) := Int.mul_nonneg n0 (by omega)
    have et := ten_num hK (k := s - f) (by omega) (by omega)
    have em := mul_num h7 n0 (by unfold T254 TOP at *; omega) (by omega : 0 ≤ p10z (s - f)) (by unfold TOP; omega) (by unfold T254 TOP at *; omega)
    have er := rounded_ok (mode := mode) (m := m) (sc := s) hK hm0 (by unfold T254 TOP at *; omega) (by decide : (0 : Int) < 1) (by decide)
    obtain ⟨o0, o1, o2, o3, o4, o5⟩ := wd_one
    rw [o0, o1, o2, o3, o4, o5] at er
    rw [iw (x := s - f) (by omega) (by omega)]
    simp [c, et, tup, em, er]
  · have b := p10z_bd (k := f - s) (by omega) (by omega)
    have et := ten_num hK (k := f - s) (by omega) (by omega)
    have er := rounded_ok (mode := mode) (m := m) (sc := s) hK n0 (by unfold T254 TOP at *; omega) (by omega : 0 < p10z (f - s)) (by unfold TOP; omega)
    rw [iw (x := f - s) (by omega) (by omega)]
    simp [c, et, tup, er]
end Go.Proofs.Ytimhhefngigfeaa.Wide

namespace Go.Proofs.Ytimhhefngigfeaa.Wide
open Go Go.RowKit Go.Proofs.Ytimhhefngigfeaa.Vm
def Fm (hi lo sc : Int) : Prop := 0 ≤ sc ∧ sc ≤ 18 ∧ ¬(hi = -9223372036854775808 ∧ lo = 0)
instance (hi lo sc : Int) : Decidable (Fm hi lo sc) := by unfold Fm; infer_instance
theorem check_ok (K : Nat) (hi lo sc : Int) : F.dec_Check K hi lo sc = some (if Fm hi lo sc then 0 else 3) := by
  unfold F.dec_Check
  by_cases c1 : sc < 0
  · rw [if_neg (show ¬ Fm hi lo sc by unfold Fm; omega)]; simp [c1]
  by_cases c2 : sc > 18
  · rw [if_neg (show ¬ Fm hi lo sc by unfold Fm; omega)]; simp [c1, c2]
  by_cases c3 : hi = -9223372036854775808
  · by_cases c4 : lo = 0
    · rw [if_neg (show ¬ Fm hi lo sc by unfold Fm; omega)]; simp [c1, c2, c3, c4]
    · rw [if_pos (show Fm hi lo sc by unfold Fm; omega)]; simp [c1, c2, c3, c4]
  · rw [if_pos (show Fm hi lo sc by unfold Fm; omega)]; simp [c1, c2, c3]
theorem both_ok (K : Nat) (a0 a1 a2 b0 b1 b2 : Int) : F.dec_both K a0 a1 a2 b0 b1 b2 = some (if Fm a0 a1 a2 ∧ Fm b0 b1 b2 then 0 else 3) := by
  unfold F.dec_both
  rw [check_ok, check_ok]
  by_cases c : Fm a0 a1 a2 <;> by_cases d : Fm b0 b1 b2 <;> simp [c, d]
theorem fm_bd {hi lo sc : Int} (h : Fm hi lo sc) (i : I64 hi) (l : Word lo) : -170141183460469231731687303715884105728 < cf hi lo ∧ cf hi lo < 170141183460469231731687303715884105728 ∧ 0 ≤ siz hi lo ∧ siz hi lo < 170141183460469231731687303715884105728 := by
  unfold Fm I64 Word at *
  unfold siz cf
  split <;> omega
theorem sgB_siz (hi lo p : Int) : sgB (decide (hi < 0)) (siz hi lo * p) = cf hi lo * p := by
  unfold sgB siz
  by_cases c : hi < 0
  · rw [if_pos (by simpa using c), if_pos c, Int.neg_mul, Int.neg_neg]
  · rw [if_neg (by simpa using c), if_neg c]
theorem sgB_neg (hi lo : Int) : sgB (!decide (hi < 0)) (siz hi lo) = -(cf hi lo) := by
  unfold sgB siz
  by_cases c : hi < 0 <;> simp [c]
theorem packed {c sc : Int} (h0 : -170141183460469231731687303715884105728 < c) (h1 : c < 170141183460469231731687303715884105728) (s0 : 0 ≤ sc) (s1 : sc ≤ 18) :
    I64 (c / 18446744073709551616) ∧ Word (c % 18446744073709551616) ∧ Fm (c / 18446744073709551616) (c % 18446744073709551616) sc ∧ cf (c / 18446744073709551616) (c % 18446744073709551616) = c := by
  unfold I64 Word Fm cf
  omega
theorem neg_ok {K : Nat} (hK : 7 ≤ K) {hi lo sc : Int} (i : I64 hi) (l : Word lo) : F.dec_Neg K hi lo sc = some (if Fm hi lo sc then pack (-(cf hi lo)) sc else (0, 0, 0, 3)) := by
  unfold F.dec_Neg
  rw [check_ok]
  by_cases c : Fm hi lo sc
  · obtain ⟨b0, b1, b2, b3⟩ := fm_bd c i l
    have et := together_ok (m := !decide (hi < 0)) (sc := sc) hK b2 (by unfold TOP; omega)
    rw [togD_pack b2, sgB_neg] at et
    simp only [c, if_true, oB, apart_ok K i l, ntup, et]
    simp
  · simp [c]
theorem to_num {K : Nat} (hK : 400 ≤ K) {b : Bool} {A s k : Int} (h0 : 0 ≤ A) (h1 : A ≤ T254) (h2 : s ≤ k) (h3 : k - s ≤ 36) (hs : 0 ≤ s) (hk : k ≤ 100) : F.dn_to K b (wd0 A) (wd1 A) (wd2 A) (wd3 A) (wd4 A) (wd5 A) s k = some (ntup b (A * p10z (k - s)) k) := by
  have b' := p10z_bd (k := k - s) (by omega) h3
  have hm : A * p10z (k - s) ≤ T254 * 1000000000000000000000000000000000000 := Int.mul_le_mul h1 b'.2 (by omega) (by decide)
  have et := ten_num hK (k := k - s) (by omega) h3
  have em := mul_num (by omega : 7 ≤ K) h0 (by unfold T254 TOP at *; omega) (by omega : 0 ≤ p10z (k - s)) (by unfold TOP; omega) (by unfold T254 TOP at *; omega)
  unfold F.dn_to
  rw [iw (by omega) (by omega)]
  simp only [et, tup, oB, em, ntup]
theorem plus_num {K : Nat} (hK : 7 ≤ K) {b d : Bool} {A B k s' : Int} (hA : 0 ≤ A) (hB : 0 ≤ B) (h : A + B < TOP) : ∃ n V, 0 ≤ V ∧ V ≤ A + B ∧ sgB n V = sgB b A + sgB d B ∧ F.dn_plus K b (wd0 A) (wd1 A) (wd2 A) (wd3 A) (wd4 A) (wd5 A) k d (wd0 B) (wd1 B) (wd2 B) (wd3 B) (wd4 B) (wd5 B) s' = some (ntup n V k) := by
  unfold F.dn_plus
  by_cases c : b = d
  · subst c
    have ea := add_ok hK (words_tup A) (words_tup B)
    rw [val_tup hA (by omega), val_tup hB (by omega), Int.emod_eq_of_lt (by omega) h] at ea
    exact ⟨b, A + B, by omega, by omega, by unfold sgB; split <;> omega, by simp [ea, tup, ntup]⟩
  · have ec := cmp_ok hK (words_tup A) (words_tup B)
    rw [val_tup hA (by omega), val_tup hB (by omega)] at ec
    by_cases g : B ≤ A
    · have es := sub_ok hK (words_tup A) (words_tup B)
      rw [val_tup hA (by omega), val_tup hB (by omega), Int.emod_eq_of_lt (by omega) (by omega)] at es
      have e3 : 0 ≤ cmp3 A B := by unfold cmp3; rw [if_neg (by omega)]; split <;> omega
      exact ⟨b, A - B, by omega, by omega, by unfold sgB; cases b <;> cases d <;> simp_all <;> omega, by simp [c, ec, e3, es, tup, ntup]⟩
    · have es := sub_ok hK (words_tup B) (words_tup A)
      rw [val_tup hA (by omega), val_tup hB (by omega), Int.emod_eq_of_lt (by omega) (by omega)] at es
      have e3 : ¬ 0 ≤ cmp3 A B := by unfold cmp3; rw [if_pos (by omega)]; omega
      exact ⟨d, B - A, by omega, by omega, by unfold sgB; cases b <;> cases d <;> simp_all <;> omega, by simp [c, ec, e3, es, tup, ntup]⟩
def mx (a b : Int) : Int := if b > a then b else a
def up (a0 a1 a2 s : Int) : Int := cf a0 a1 * p10z (s - a2)
theorem dadd_ok {K : Nat} (hK : 400 ≤ K) {a0 a1 a2 b0 b1 b2 : Int} (ia : I64 a0) (la : Word a1) (ib : I64 b0) (lb : Word b1) :
    F.dec_Add K a0 a1 a2 b0 b1 b2 = some (if Fm a0 a1 a2 ∧ Fm b0 b1 b2 then pack (up a0 a1 a2 (mx a2 b2) + up b0 b1 b2 (mx a2 b2)) (mx a2 b2) else (0, 0, 0, 3)) := by
  unfold F.dec_Add
  rw [both_ok]
  by_cases c : Fm a0 a1 a2 ∧ Fm b0 b1 b2
  · obtain ⟨x0, x1, x2, x3⟩ := fm_bd c.1 ia la
    obtain ⟨y0, y1, y2, y3⟩ := fm_bd c.2 ib lb
    have fa := c.1
    have fb := c.2
    unfold Fm at fa fb
    have hs : a2 ≤ mx a2 b2 ∧ b2 ≤ mx a2 b2 ∧ mx a2 b2 ≤ 18 := by unfold mx; split <;> omega
    rw [show (if b2 > a2 then b2 else a2) = mx a2 b2 from rfl]
    generalize mx a2 b2 = s at *
    have p1 := p10z_bd (k := s - a2) (by omega) (by omega)
    have p2 := p10z_bd (k := s - b2) (by omega) (by omega)
    have ta := to_num hK (b := decide (a0 < 0)) (s := a2) (k := s) x2 (by unfold T254; omega) hs.1 (by omega) (by omega) (by omega)
    have tb := to_num hK (b := decide (b0 < 0)) (s := b2) (k := s) y2 (by unfold T254; omega) hs.2.1 (by omega) (by omega) (by omega)
    have m1 : siz a0 a1 * p10z (s - a2) ≤ 170141183460469231731687303715884105728 * 1000000000000000000000000000000000000 := Int.mul_le_mul (by omega) p1.2 (by omega) (by decide)
    have m2 : siz b0 b1 * p10z (s - b2) ≤ 170141183460469231731687303715884105728 * 1000000000000000000000000000000000000 := Int.mul_le_mul (by omega) p2.2 (by omega) (by decide)
    have n1 : 0 ≤ siz a0 a1 * p10z (s - a2) := Int.mul_nonneg x2 (by omega)
    have n2 : 0 ≤ siz b0 b1 * p10z (s - b2) := Int.mul_nonneg y2 (by omega)
    obtain ⟨n, V, v0, v1, v2, ep⟩ := plus_num (by omega : 7 ≤ K) (b := decide (a0 < 0)) (d := decide (b0 < 0)) (k := s) (s' := s) n1 n2 (by unfold TOP; omega)
    have et := together_ok (m := n) (sc := s) (by omega : 7 ≤ K) v0 (by unfold TOP; omega)
    rw [togD_pack v0, v2, sgB_siz, sgB_siz] at et
    rw [if_pos c, if_pos c]
    simp only [oB, apart_ok K ia la, apart_ok K ib lb, ntup, ta, tb, ep, et, up]
    simp
  · simp [c]
theorem dcmp_ok {K : Nat} (hK : 400 ≤ K) {a0 a1 a2 b0 b1 b2 : Int} (ia : I64 a0) (la : Word a1) (ib : I64 b0) (lb : Word b1) :
    F.dec_Cmp K a0 a1 a2 b0 b1 b2 = some (if Fm a0 a1 a2 ∧ Fm b0 b1 b2 then (cmp3 (up a0 a1 a2 (mx a2 b2)) (up b0 b1 b2 (mx a2 b2)), 0) else (0, 3)) := by
  unfold F.dec_Cmp
  rw [both_ok]
  by_cases c : Fm a0 a1 a2 ∧ Fm b0 b1 b2
  · obtain ⟨x0, x1, x2, x3⟩ := fm_bd c.1 ia la
    obtain ⟨y0, y1, y2, y3⟩ := fm_bd c.2 ib lb
    have fa := c.1
    have fb := c.2
    unfold Fm at fa fb
    have hs : a2 ≤ mx a2 b2 ∧ b2 ≤ mx a2 b2 ∧ mx a2 b2 ≤ 18 := by unfold mx; split <;> omega
    rw [show (if b2 > a2 then b2 else a2) = mx a2 b2 from rfl]
    generalize mx a2 b2 = s at *
    have p1 := p10z_bd (k := s - a2) (by omega) (by omega)
    have p2 := p10z_bd (k := s - b2) (by omega) (by omega)
    have ta := to_num hK (b := decide (a0 < 0)) (s := a2) (k := s) x2 (by unfold T254; omega) hs.1 (by omega) (by omega) (by omega)
    have tb := to_num hK (b := decide (b0 < 0)) (s := b2) (k := s) y2 (by unfold T254; omega) hs.2.1 (by omega) (by omega) (by omega)
    have m1 : siz a0 a1 * p10z (s - a2) ≤ 170141183460469231731687303715884105728 * 1000000000000000000000000000000000000 := Int.mul_le_mul (by omega) p1.2 (by omega) (by decide)
    have m2 : siz b0 b1 * p10z (s - b2) ≤ 170141183460469231731687303715884105728 * 1000000000000000000000000000000000000 := Int.mul_le_mul (by omega) p2.2 (by omega) (by decide)
    have n1 : 0 ≤ siz a0 a1 * p10z (s - a2) := Int.mul_nonneg x2 (by omega)
    have n2 : 0 ≤ siz b0 b1 * p10z (s - b2) := Int.mul_nonneg y2 (by omega)
    obtain ⟨n, V, v0, v1, v2, ep⟩ := plus_num (by omega : 7 ≤ K) (b := decide (a0 < 0)) (d := !decide (b0 < 0)) (k := s) (s' := s) n1 n2 (by unfold TOP; omega)
    have el := len_ok (by omega : 7 ≤ K) (words_tup V)
    rw [val_tup v0 (by unfold TOP; omega)] at el
    have hz := blen_zero v0
    have e2 : sgB (!decide (b0 < 0)) (siz b0 b1 * p10z (s - b2)) = -(sgB (decide (b0 < 0)) (siz b0 b1 * p10z (s - b2))) := by unfold sgB; cases decide (b0 < 0) <;> simp
    rw [e2, sgB_siz, sgB_siz] at v2
    rw [if_pos c, if_pos c]
    simp only [oB, apart_ok K ia la, apart_ok K ib lb, ntup, ta, tb, ep, el, up]
    unfold sgB at v2
    unfold cmp3
    generalize cf a0 a1 * p10z (s - a2) = X at *
    generalize cf b0 b1 * p10z (s - b2) = Y at *
    by_cases z : V = 0
    · have z' := hz.2 z
      have : X = Y := by rw [z] at v2; split at v2 <;> omega
      simp [z', this]
    · have z' : ¬ blen V = 0 := fun h => z (hz.1 h)
      cases n with
      | true =>
        simp only [↓reduceIte] at v2
        rw [if_pos (show X < Y by omega)]
        simp [z']
      | false =>
        simp at v2
        simp [z', show ¬ X < Y by omega, show Y < X by omega]
  · simp [c]
end Go.Proofs.Ytimhhefngigfeaa.Wide

namespace Go.Proofs.Ytimhhefngigfeaa.Wide
open Go Go.RowKit Go.Proofs.Ytimhhefngigfeaa.Vm
def Wy (s m : Int) : Prop := 0 ≤ s ∧ s ≤ 18 ∧ 0 ≤ m ∧ m ≤ 6
instance (s m : Int) : Decidable (Wy s m) := by unfold Wy; infer_instance
theorem way_ok (K : Nat) (s m : Int) : F.dec_way K s m = some (if Wy s m then 0 else 1) := by
  unfold F.dec_way
  by_cases c1 : s < 0
  · rw [if_neg (show ¬ Wy s m by unfold Wy; omega)]; simp [c1]
  by_cases c2 : s > 18
  · rw [if_neg (show ¬ Wy s m by unfold Wy; omega)]; simp [c1, c2]
  by_cases c3 : m < 0
  · rw [if_neg (show ¬ Wy s m by unfold Wy; omega)]; simp [c1, c2, c3]
  by_cases c4 : m > 6
  · rw [if_neg (show ¬ Wy s m by unfold Wy; omega)]; simp [c1, c2, c3, c4]
  · rw [if_pos (show Wy s m by unfold Wy; omega)]; simp [c1, c2, c3, c4]
theorem dmul_ok {K : Nat} (hK : 400 ≤ K) {a0 a1 a2 b0 b1 b2 s m : Int} (ia : I64 a0) (la : Word a1) (ib : I64 b0) (lb : Word b1) :
    F.dec_Mul K a0 a1 a2 b0 b1 b2 s m = some (if Wy s m then (if Fm a0 a1 a2 ∧ Fm b0 b1 b2 then togD (!decide (a0 < 0) == decide (b0 < 0)) (scaledS (!decide (a0 < 0) == decide (b0 < 0)) (siz a0 a1 * siz b0 b1) (a2 + b2) s m) s else (0, 0, 0, 3)) else (0, 0, 0, 1)) := by
  unfold F.dec_Mul
  rw [way_ok, both_ok]
  by_cases c : Wy s m
  · by_cases d : Fm a0 a1 a2 ∧ Fm b0 b1 b2
    · obtain ⟨x0, x1, x2, x3⟩ := fm_bd d.1 ia la
      obtain ⟨y0, y1, y2, y3⟩ := fm_bd d.2 ib lb
      have fa := d.1
      have fb := d.2
      have fw := c
      unfold Fm at fa fb
      unfold Wy at fw
      have m0 : 0 ≤ siz a0 a1 * siz b0 b1 := Int.mul_nonneg x2 y2
      have m1 : siz a0 a1 * siz b0 b1 ≤ 170141183460469231731687303715884105728 * 170141183460469231731687303715884105728 := Int.mul_le_mul (by omega) (by omega) y2 (by decide)
      have em := mul_num (by omega : 7 ≤ K) x2 (by unfold TOP; omega) y2 (by unfold TOP; omega) (by unfold TOP; omega)
      have e := scaled_ok hK (mode := m) (m := !decide (a0 < 0) == decide (b0 < 0)) (f := a2 + b2) (s := s) m0 (by unfold T254; omega) (by omega) (by omega) fw.1 fw.2.1
      rw [if_pos c, if_pos d, if_pos c, if_pos d]
      simp only [oB, apart_ok K ia la, apart_ok K ib lb, ntup, em, tup, iw (x := a2 + b2) (by omega) (by omega), e]
      simp
    · simp [c, d]
  · simp [c]
end Go.Proofs.Ytimhhefngigfeaa.Wide

namespace Go.Proofs.Ytimhhefngigfeaa.Wide
open Go Go.RowKit Go.Proofs.Ytimhhefngigfeaa.Vm
theorem p10z_succ {k : Int} (h : 0 ≤ k) : p10z (k + 1) = p10z k * 10 := by
  unfold p10z
  rw [show (k + 1).toNat = k.toNat + 1 by omega, Int.pow_succ]
theorem p10z_add {j k : Int} (h : 0 ≤ j) (h' : 0 ≤ k) : p10z (j + k) = p10z j * p10z k := by
  unfold p10z
  rw [show (j + k).toNat = j.toNat + k.toNat by omega, Int.pow_add]
def absI (x : Int) : Int := if x < 0 then -x else x
theorem mul_bd {a b A B : Int} (h0 : 0 ≤ a) (h1 : a ≤ A) (h2 : 0 ≤ b) (h3 : b ≤ B) : 0 ≤ a * b ∧ a * b ≤ A * B := ⟨Int.mul_nonneg h0 h2, Int.mul_le_mul h1 h3 h2 (by omega)⟩
-- numbers within their kinds
theorem wfI64 {x : Int} (h : (Lit.int .i64 x).wf = true) : I64 x := by simp [Lit.wf, IntKind.min, IntKind.max, IntKind.signed, IntKind.bits] at h; unfold I64; omega
theorem wfU64 {x : Int} (h : (Lit.int .u64 x).wf = true) : Word x := by simp [Lit.wf, IntKind.min, IntKind.max, IntKind.signed, IntKind.bits] at h; unfold Word; omega
theorem p10z_zero : p10z 0 = 1 := rfl
theorem mx_comm (a b : Int) : mx a b = mx b a := by unfold mx; split <;> split <;> omega
theorem mx_self (a : Int) : mx a a = a := by unfold mx; split <;> rfl
theorem mx_left {a b : Int} (h : b ≤ a) : mx a b = a := by unfold mx; rw [if_neg (by omega)]
theorem roundS_one {m : Bool} {A mode : Int} : roundS m A 1 mode = A := by
  unfold roundS; rw [Int.ediv_one, Int.emod_one, if_pos rfl, Int.add_zero]
theorem absI_nonneg (x : Int) : 0 ≤ absI x := by unfold absI; split <;> omega
theorem sgB_mulAbs (x z : Int) : sgB (!decide (x < 0) == decide (z < 0)) (absI x * absI z) = x * z := by
  unfold sgB absI
  by_cases c : x < 0 <;> by_cases d : z < 0 <;> simp [c, d, Int.neg_mul, Int.mul_neg]
theorem siz_parts {x : Int} (h0 : -170141183460469231731687303715884105728 < x) (h1 : x < 170141183460469231731687303715884105728) : siz (x / 18446744073709551616) (x % 18446744073709551616) = absI x ∧ decide (x / 18446744073709551616 < 0) = decide (x < 0) := by
  have e := (packed (sc := 0) h0 h1 (by decide) (by decide)).2.2.2
  have c : (x / 18446744073709551616 < 0) ↔ (x < 0) := by omega
  unfold siz absI
  rw [e]
  simp only [c]
  exact ⟨trivial, trivial⟩
theorem mul_exact {K : Nat} (hK : 400 ≤ K) {x z s t m : Int} (x0 : -170141183460469231731687303715884105728 < x) (x1 : x < 170141183460469231731687303715884105728) (z0 : -170141183460469231731687303715884105728 < z) (z1 : z < 170141183460469231731687303715884105728)
    (hs : 0 ≤ s) (ht : 0 ≤ t) (hst : s + t ≤ 18) (m0 : 0 ≤ m) (m1 : m ≤ 6) : F.dec_Mul K (x / 18446744073709551616) (x % 18446744073709551616) s (z / 18446744073709551616) (z % 18446744073709551616) t (s + t) m = some (pack (x * z) (s + t)) := by
  obtain ⟨p0, p1, p2, p3⟩ := packed (sc := s) x0 x1 hs (by omega)
  obtain ⟨q0, q1, q2, q3⟩ := packed (sc := t) z0 z1 ht (by omega)
  obtain ⟨sx, dx⟩ := siz_parts x0 x1
  obtain ⟨sz, dz⟩ := siz_parts z0 z1
  rw [dmul_ok hK p0 p1 q0 q1, if_pos (show Wy (s + t) m by unfold Wy; omega), if_pos (And.intro p2 q2), sx, sz, dx, dz]
  unfold scaledS
  rw [if_pos (Int.le_refl _), Int.sub_self, p10z_zero, Int.mul_one, roundS_one, togD_pack (Int.mul_nonneg (absI_nonneg x) (absI_nonneg z)), sgB_mulAbs]
theorem p10z_pos (k : Int) : 0 < p10z k := Int.pow_pos (by decide)
end Go.Proofs.Ytimhhefngigfeaa.Wide

namespace Go.Proofs.Ytimhhefngigfeaa.Wide
open Go Go.RowKit Go.Proofs.Ytimhhefngigfeaa.Vm
abbrev B32 : Int := 4294967296
def vr : List Int → Int
  | [] => 0
  | x :: l => x + B32 * vr l
def Dg (l : List Int) : Prop := ∀ x ∈ l, 0 ≤ x ∧ x < B32
def rl (n : Int) : List Int := if h : 0 < n then n % B32 :: rl (n / B32) else []
termination_by n.toNat
decreasing_by unfold B32; omega
theorem rl_pos {n : Int} (h : 0 < n) : rl n = n % B32 :: rl (n / B32) := by rw [rl, dif_pos h]
theorem rl_zero {n : Int} (h : n ≤ 0) : rl n = [] := by rw [rl, dif_neg (by omega)]
theorem vr_nonneg : ∀ {l : List Int}, Dg l → 0 ≤ vr l
  | [], _ => by simp [vr]
  | x :: l, h => by
    have h1 := h x (by simp)
    have h2 := vr_nonneg (l := l) fun y hy => h y (by simp [hy])
    rw [vr]
    unfold B32 at *
    omega
theorem dg_rl (n : Int) : Dg (rl n) := by
  by_cases h : 0 < n
  · rw [rl_pos h]
    intro x hx
    rcases List.mem_cons.1 hx with rfl | hx
    · unfold B32; omega
    · exact dg_rl (n / B32) x hx
  · rw [rl_zero (by omega)]; intro x hx; simp at hx
termination_by n.toNat
decreasing_by unfold B32; omega
theorem vr_rl {n : Int} (h0 : 0 ≤ n) : vr (rl n) = n := by
  by_cases h : 0 < n
  · rw [rl_pos h, vr, vr_rl (n := n / B32) (by unfold B32; omega)]
    unfold B32; omega
  · rw [rl_zero (by omega), vr]; omega
termination_by n.toNat
decreasing_by unfold B32; omega
theorem dg_cons {x : Int} {l : List Int} (h : Dg (x :: l)) : (0 ≤ x ∧ x < B32) ∧ Dg l := ⟨h x (by simp), fun y hy => h y (by simp [hy])⟩
theorem rl_vr : ∀ {l : List Int}, Dg l → l.getLast? ≠ some 0 → rl (vr l) = l
  | [], _, _ => by rw [vr, rl_zero (by decide)]
  | x :: l, h, hn => by
    obtain ⟨hx, hl⟩ := dg_cons h
    have v0 := vr_nonneg hl
    by_cases e : l = []
    · subst e
      have : x ≠ 0 := fun h => hn (by simp [h])
      unfold B32 at hx
      rw [vr, vr, Int.mul_zero, Int.add_zero, rl_pos (by omega), rl_zero (by unfold B32; omega), Int.emod_eq_of_lt (by omega) (by unfold B32; omega)]
    · have hn' : l.getLast? ≠ some 0 := by
        cases l with
        | nil => exact absurd rfl e
        | cons y l => simpa using hn
      have ih := rl_vr hl hn'
      have : 0 < vr l := by
        rcases Int.lt_or_eq_of_le v0 with h | h
        · exact h
        · rw [← h, rl_zero (by decide)] at ih; exact absurd ih.symm e
      unfold B32 at hx
      rw [vr, rl_pos (by unfold B32; omega)]
      rw [show (x + B32 * vr l) % B32 = x by unfold B32; omega, show (x + B32 * vr l) / B32 = vr l by unfold B32; omega, ih]
theorem vr_take : ∀ (l : List Int) (n : Nat), n < l.length → vr (l.take (n + 1)) = vr (l.take n) + nth 0 l n * B32 ^ n
  | [], n, h => by simp at h
  | x :: l, 0, h => by simp [vr, nth]
  | x :: l, n + 1, h => by
    have ih := vr_take l n (by simpa using h)
    simp only [List.take_succ_cons, vr, nth, ih, Int.pow_succ]
    rw [Int.mul_add, Int.mul_left_comm, Int.mul_comm (B32 ^ n) B32]
    omega
theorem nth_eq_get {l : List Int} {n : Nat} (h : n < l.length) : nth 0 l n = l[n] := by
  induction l generalizing n with
  | nil => simp at h
  | cons x l ih => cases n with
    | zero => rfl
    | succ n => simp only [nth, List.getElem_cons_succ]; exact ih (by simpa using h)
theorem norm_loop {K : Nat} (l : List Int) (hd : Dg l) (hl : l.length < 4294967296) : ∀ (k n : Nat), n < k → n ≤ l.length → vr (l.take n) = vr l →
    ∃ m : Nat, F.r1_Norm_l2 K k l n = some (l, (m : Int)) ∧ m ≤ l.length ∧ l.take m = rl (vr l)
  | 0, n, h, _, _ => by omega
  | k + 1, n, h, hn, hv => by
    rw [F.r1_Norm_l2]
    cases n with
    | zero =>
      refine ⟨0, by simp, by omega, ?_⟩
      rw [← hv]; simp [vr, rl_zero]
    | succ n =>
      have e := vr_take l n hn
      have c1 : ((n + 1 : Nat) : Int) > 0 := by omega
      have c2 : IntKind.i64.wrap (((n + 1 : Nat) : Int) - 1) = (n : Int) := by rw [iw (by omega) (by omega)]; omega
      have c3 : (n : Int) < (l.length : Int) := by omega
      rw [c2]
      by_cases z : nth 0 l n = 0
      · obtain ⟨m, g1, g2, g3⟩ := norm_loop l hd hl k n (by omega) (by omega) (by rw [← hv, e, z]; simp)
        refine ⟨m, ?_, g2, g3⟩
        simp [c3, z, g1]
        omega
      · refine ⟨n + 1, ?_, hn, ?_⟩
        · simp [c3, z]
        · have hlast : (l.take (n + 1)).getLast? ≠ some 0 := by
            rw [List.getLast?_eq_getElem?, List.length_take, Nat.min_eq_left hn, Nat.add_sub_cancel, List.getElem?_take, if_pos (by omega), List.getElem?_eq_getElem (by omega)]
            rw [nth_eq_get (by omega)] at z
            simpa using z
          rw [← hv, rl_vr (fun x hx => hd x (List.mem_of_mem_take hx)) hlast]
theorem norm_ok {K : Nat} {l : List Int} (hd : Dg l) (hK : l.length < K) (hl : l.length < 4294967296) : F.r1_Norm K l = some (rl (vr l)) := by
  obtain ⟨m, h1, h2, h3⟩ := norm_loop (K := K) l hd hl K l.length hK (Nat.le_refl _) (by simp)
  have c : (m : Int) ≤ (l.length : Int) := by omega
  unfold F.r1_Norm
  rw [h1]
  simp [c, h3]
theorem word_ok {K : Nat} (hK : 3 ≤ K) {x : Int} (h : Word x) : F.r1_Word K x = some (rl x) := by
  unfold Word at h
  unfold F.r1_Word
  rw [tm _ (by omega), td _ (by omega), uw (by omega) (by omega)]
  rw [norm_ok (by intro y hy; unfold B32; simp at hy; omega) (by simp; omega) (by simp)]
  simp only [vr, oB]
  rw [show x % 4294967296 + B32 * (x / 4294967296 + B32 * 0) = x by unfold B32; omega]
end Go.Proofs.Ytimhhefngigfeaa.Wide

namespace Go.Proofs.Ytimhhefngigfeaa.Wide
open Go Go.RowKit Go.Proofs.Ytimhhefngigfeaa.Vm
theorem nth_out {l : List Int} {n : Nat} (h : l.length ≤ n) : nth 0 l n = 0 := by
  induction l generalizing n with
  | nil => rfl
  | cons x l ih => cases n with
    | zero => simp at h
    | succ n => exact ih (by simpa using h)
theorem nth_bd {l : List Int} (hd : Dg l) (n : Nat) : 0 ≤ nth 0 l n ∧ nth 0 l n < B32 := by
  by_cases h : n < l.length
  · rw [nth_eq_get h]; exact hd _ (List.getElem_mem h)
  · rw [nth_out (by omega)]; unfold B32; omega
theorem vr_take' (l : List Int) (n : Nat) : vr (l.take (n + 1)) = vr (l.take n) + nth 0 l n * B32 ^ n := by
  by_cases h : n < l.length
  · exact vr_take l n h
  · rw [nth_out (by omega), List.take_of_length_le (by omega), List.take_of_length_le (by omega)]; simp
theorem vr_append : ∀ (l : List Int) (x : Int), vr (l ++ [x]) = vr l + x * B32 ^ l.length
  | [], x => by simp [vr]
  | y :: l, x => by
    have ih := vr_append l x
    simp only [List.cons_append, vr, ih, List.length_cons, Int.pow_succ]
    rw [Int.mul_add, Int.mul_left_comm, Int.mul_comm (B32 ^ l.length) B32]
    omega
theorem dg_append {l : List Int} {x : Int} (h : Dg l) (h0 : 0 ≤ x) (h1 : x < B32) : Dg (l ++ [x]) := by
  intro y hy
  rcases List.mem_append.1 hy with hy | hy
  · exact h y hy
  · simp at hy; subst hy; exact ⟨h0, h1⟩
theorem dm (t P : Int) : t % B32 * P + t / B32 * (P * B32) = t * P := by
  have e := Int.emod_add_mul_ediv t B32
  have : t * P = (t % B32 + B32 * (t / B32)) * P := by rw [e]
  rw [this, Int.add_mul, Int.mul_comm B32, Int.mul_assoc (t / B32) B32 P, Int.mul_comm P B32]
theorem plus_step {K k : Nat} {l0 l1 l5 : List Int} {c : Int} {i : Nat} (d0 : Dg l0) (d1 : Dg l1) (c0 : 0 ≤ c) (c1 : c ≤ 1) (hi : i < 1000000) (h5 : l5.length = i) :
    F.r1_Plus_l4 K (k + 1) l0 l1 l5 c i = if (i < l0.length ∨ i < l1.length) ∨ 0 < c then F.r1_Plus_l4 K k l0 l1 (l5 ++ [(c + nth 0 l0 i + nth 0 l1 i) % B32]) ((c + nth 0 l0 i + nth 0 l1 i) / B32) ((i + 1 : Nat) : Int) else some l5 := by
  have b0 := nth_bd d0 i
  have b1 := nth_bd d1 i
  have w1 : IntKind.u64.wrap (c + nth 0 l0 i) = c + nth 0 l0 i := uw (by omega) (by unfold B32 at *; omega)
  have w2 : IntKind.u64.wrap (c + nth 0 l0 i + nth 0 l1 i) = c + nth 0 l0 i + nth 0 l1 i := uw (by omega) (by unfold B32 at *; omega)
  have w3 : IntKind.u64.wrap (c + nth 0 l1 i) = c + nth 0 l1 i := uw (by omega) (by unfold B32 at *; omega)
  have wi1 : IntKind.i64.wrap ((i : Int) + 1) = (i : Int) + 1 := iw (by omega) (by omega)
  have T : ∀ t : Int, 0 ≤ t → t < 18446744073709551616 → t.tmod 4294967296 = t % B32 ∧ IntKind.u64.wrap (t.tdiv 4294967296) = t / B32 := fun t h0 h1 => by
    rw [tm _ h0, td _ h0, uw (by omega) (by omega)]; exact ⟨rfl, rfl⟩
  have L : l5.length + 1 ≤ 17592186044416 := by omega
  rw [F.r1_Plus_l4]
  simp only [Int.toNat_natCast]
  rw [show ((i + 1 : Nat) : Int) = (i : Int) + 1 by omega]
  by_cases a : i < l0.length
  · have a' : (i : Int) < (l0.length : Int) := by omega
    by_cases b : i < l1.length
    · have b' : (i : Int) < (l1.length : Int) := by omega
      obtain ⟨t1, t2⟩ := T (c + nth 0 l0 i + nth 0 l1 i) (by omega) (by unfold B32 at *; omega)
      simp [a, a', b, b', L, w1, w2, wi1, t1, t2]
    · have b' : ¬ (i : Int) < (l1.length : Int) := by omega
      have z := nth_out (l := l1) (n := i) (by omega)
      obtain ⟨t1, t2⟩ := T (c + nth 0 l0 i) (by omega) (by unfold B32 at *; omega)
      simp [a, a', b, b', L, w1, wi1, t1, t2, z]
  · have a' : ¬ (i : Int) < (l0.length : Int) := by omega
    have z0 := nth_out (l := l0) (n := i) (by omega)
    by_cases b : i < l1.length
    · have b' : (i : Int) < (l1.length : Int) := by omega
      obtain ⟨t1, t2⟩ := T (c + nth 0 l1 i) (by omega) (by unfold B32 at *; omega)
      simp [a, a', b, b', L, w3, wi1, t1, t2, z0]
    · have b' : ¬ (i : Int) < (l1.length : Int) := by omega
      have z1 := nth_out (l := l1) (n := i) (by omega)
      obtain ⟨t1, t2⟩ := T c (by omega) (by omega)
      by_cases g : 0 < c
      · simp [a, a', b, b', L, g, wi1, t1, t2, z0, z1]
      · simp [a, a', b, b', g]
theorem plus_loop {K : Nat} {l0 l1 : List Int} (d0 : Dg l0) (d1 : Dg l1) {M : Nat} (m0 : l0.length ≤ M) (m1 : l1.length ≤ M) (hM : M < 900000) : ∀ (k i : Nat) (c : Int) (l5 : List Int), l5.length = i → Dg l5 → 0 ≤ c → c ≤ 1 → vr l5 + c * B32 ^ i = vr (l0.take i) + vr (l1.take i) → i ≤ M + 1 → (i = M + 1 → c = 0) → M + 1 - i < k →
    ∃ r, F.r1_Plus_l4 K k l0 l1 l5 c i = some r ∧ Dg r ∧ r.length ≤ M + 1 ∧ vr r = vr l0 + vr l1
  | 0, i, c, l5, _, _, _, _, _, _, _, h => by omega
  | k + 1, i, c, l5, h5, d5, c0, c1, hv, hi, hc, hk => by
    rw [plus_step d0 d1 c0 c1 (by omega) h5]
    by_cases g : (i < l0.length ∨ i < l1.length) ∨ 0 < c
    · rw [if_pos g]
      have b0 := nth_bd d0 i
      have b1 := nth_bd d1 i
      have hiM : i ≤ M := by
        rcases g with (g | g) | g
        · omega
        · omega
        · have : ¬ i = M + 1 := fun h => by have := hc h; omega
          omega
      refine plus_loop d0 d1 m0 m1 hM k (i + 1) _ _ (by simp [h5]) (dg_append d5 (by unfold B32; omega) (by unfold B32; omega)) (by unfold B32 at *; omega) (by unfold B32 at *; omega) ?_ (by omega) ?_ (by omega)
      · rw [vr_append, vr_take', vr_take', h5, Int.pow_succ]
        have e := dm (c + nth 0 l0 i + nth 0 l1 i) (B32 ^ i)
        rw [Int.add_mul, Int.add_mul] at e
        omega
      · intro h
        have hi : i = M := by omega
        rw [nth_out (l := l0) (by omega), nth_out (l := l1) (by omega)]
        unfold B32; omega
    · rw [if_neg g]
      have hc0 : c = 0 := by omega
      refine ⟨l5, rfl, d5, by omega, ?_⟩
      rw [hc0, List.take_of_length_le (by omega), List.take_of_length_le (by omega)] at hv
      omega
theorem rl_len_le {n : Int} {k : Nat} (h : n < B32 ^ k) : (rl n).length ≤ k := by
  by_cases h0 : 0 < n
  · cases k with
    | zero => simp at h; omega
    | succ k =>
      rw [rl_pos h0, List.length_cons]
      have : n / B32 < B32 ^ k := (Int.ediv_lt_iff_lt_mul (by decide)).2 (by rw [← Int.pow_succ]; exact h)
      have := rl_len_le (n := n / B32) this
      omega
  · rw [rl_zero (by omega)]; simp
termination_by n.toNat
decreasing_by unfold B32; omega
theorem plus_ok {K : Nat} (hK : 2000 ≤ K) {a b : Int} (a0 : 0 ≤ a) (b0 : 0 ≤ b) (ha : (rl a).length ≤ 1000) (hb : (rl b).length ≤ 1000) : F.r1_Plus K (rl a) (rl b) = some (rl (a + b)) := by
  obtain ⟨r, h1, h2, h3, h4⟩ := plus_loop (K := K) (dg_rl a) (dg_rl b) ha hb (by omega) K 0 0 [] rfl (by intro x hx; simp at hx) (by decide) (by decide) (by simp [vr]) (by omega) (by omega) (by omega)
  have h1' : F.r1_Plus_l4 K K (rl a) (rl b) [] 0 0 = some r := h1
  rw [vr_rl a0, vr_rl b0] at h4
  unfold F.r1_Plus
  rw [h1', oB, norm_ok h2 (by omega) (by omega), h4, oB]
end Go.Proofs.Ytimhhefngigfeaa.Wide

namespace Go.Proofs.Ytimhhefngigfeaa.Wide
open Go Go.RowKit Go.Proofs.Ytimhhefngigfeaa.Vm
theorem vr_lt : ∀ {l : List Int}, Dg l → vr l < B32 ^ l.length
  | [], _ => by simp [vr]
  | x :: l, h => by
    obtain ⟨hx, hl⟩ := dg_cons h
    have ih := vr_lt hl
    simp only [vr, List.length_cons, Int.pow_succ]
    generalize B32 ^ l.length = P at *
    unfold B32 at *
    omega
theorem nth_set {l : List Int} {n : Nat} (x : Int) (h : n < l.length) : nth 0 (l.set n x) n = x := by
  induction l generalizing n with
  | nil => simp at h
  | cons y l ih => cases n with
    | zero => rfl
    | succ n => simp only [List.set_cons_succ, nth]; exact ih (by simpa using h)
theorem take_set {l : List Int} {n : Nat} (x : Int) : (l.set n x).take n = l.take n := by
  rw [List.take_set, List.set_eq_of_length_le (by rw [List.length_take]; omega)]
theorem dg_set {l : List Int} {n : Nat} {x : Int} (h : Dg l) (h0 : 0 ≤ x) (h1 : x < B32) : Dg (l.set n x) := by
  intro y hy
  rcases List.mem_or_eq_of_mem_set hy with hy | rfl
  · exact h y hy
  · exact ⟨h0, h1⟩
theorem dg_zeros (n : Nat) : Dg (List.replicate n 0) := by
  intro x hx
  obtain rfl := List.eq_of_mem_replicate hx
  unfold B32; omega
theorem dn (t P : Int) : t % B32 * P - (1 - t / B32) * (P * B32) = t * P - B32 * P := by
  have e := dm t P
  rw [Int.sub_mul, Int.one_mul, Int.mul_comm B32 P]
  omega
theorem minus_loop {K : Nat} {l0 l1 : List Int} (d0 : Dg l0) (d1 : Dg l1) (hM : l0.length < 900000) : ∀ (k i : Nat) (c : Int) (l5 : List Int), l5.length = l0.length → Dg l5 → 0 ≤ c → c ≤ 1 → vr (l5.take i) - c * B32 ^ i = vr (l0.take i) - vr (l1.take i) → i ≤ l0.length → l0.length - i < k →
    ∃ r c', F.r1_Minus_l4 K k l0 l1 l5 c l0.length i = some r ∧ Dg r ∧ r.length = l0.length ∧ 0 ≤ c' ∧ vr r - c' * B32 ^ l0.length = vr l0 - vr (l1.take l0.length)
  | 0, i, c, l5, _, _, _, _, _, _, h => by omega
  | k + 1, i, c, l5, h5, d5, c0, c1, hv, hi, hk => by
    rw [F.r1_Minus_l4]
    simp only [Int.toNat_natCast]
    by_cases g : i < l0.length
    · have g' : (i : Int) < (l0.length : Int) := by omega
      have g5 : (i : Int) < (l5.length : Int) := by omega
      have b0 := nth_bd d0 i
      have b1 := nth_bd d1 i
      have w1 : IntKind.u64.wrap (nth 0 l0 i + 4294967296) = nth 0 l0 i + 4294967296 := uw (by omega) (by unfold B32 at *; omega)
      have w2 : IntKind.u64.wrap (nth 0 l0 i + 4294967296 - c) = nth 0 l0 i + 4294967296 - c := uw (by omega) (by unfold B32 at *; omega)
      have w3 : IntKind.u64.wrap (nth 0 l0 i + 4294967296 - c - nth 0 l1 i) = nth 0 l0 i + 4294967296 - c - nth 0 l1 i := uw (by unfold B32 at *; omega) (by unfold B32 at *; omega)
      have wi1 : IntKind.i64.wrap ((i : Int) + 1) = ((i + 1 : Nat) : Int) := by rw [iw (by omega) (by omega)]; omega
      have T : ∀ t : Int, 0 ≤ t → t < 8589934592 → t.tmod 4294967296 = t % B32 ∧ IntKind.u64.wrap (1 - IntKind.u64.wrap (t.tdiv 4294967296)) = 1 - t / B32 := fun t h0 h1 => by
        rw [tm _ h0, td _ h0, uw (x := t / 4294967296) (by omega) (by omega), uw (by omega) (by omega)]; exact ⟨rfl, rfl⟩
      have go : ∀ y : Int, y = nth 0 l1 i → ∃ r c', F.r1_Minus_l4 K k l0 l1 (l5.set i ((nth 0 l0 i + 4294967296 - c - y) % B32)) (1 - (nth 0 l0 i + 4294967296 - c - y) / B32) l0.length ((i + 1 : Nat) : Int) = some r ∧ Dg r ∧ r.length = l0.length ∧ 0 ≤ c' ∧ vr r - c' * B32 ^ l0.length = vr l0 - vr (l1.take l0.length) := fun y hy => by
        subst hy
        refine minus_loop d0 d1 hM k (i + 1) _ _ (by simp [h5]) (dg_set d5 (by unfold B32; omega) (by unfold B32; omega)) (by unfold B32 at *; omega) (by unfold B32 at *; omega) ?_ (by omega) (by omega)
        rw [vr_take', vr_take', vr_take', take_set, nth_set _ (by omega), Int.pow_succ]
        have e := dn (nth 0 l0 i + 4294967296 - c - nth 0 l1 i) (B32 ^ i)
        have e2 : (nth 0 l0 i + 4294967296 - c - nth 0 l1 i) * B32 ^ i = nth 0 l0 i * B32 ^ i + 4294967296 * B32 ^ i - c * B32 ^ i - nth 0 l1 i * B32 ^ i := by rw [Int.sub_mul, Int.sub_mul, Int.add_mul]
        rw [e2, show B32 * B32 ^ i = 4294967296 * B32 ^ i from rfl] at e
        omega
      by_cases b : i < l1.length
      · have b' : (i : Int) < (l1.length : Int) := by omega
        obtain ⟨t1, t2⟩ := T (nth 0 l0 i + 4294967296 - c - nth 0 l1 i) (by unfold B32 at *; omega) (by unfold B32 at *; omega)
        have := go _ rfl
        simpa [g', g5, b', w1, w2, w3, wi1, t1, t2] using this
      · have b' : ¬ (i : Int) < (l1.length : Int) := by omega
        have z := nth_out (l := l1) (n := i) (by omega)
        obtain ⟨t1, t2⟩ := T (nth 0 l0 i + 4294967296 - c) (by unfold B32 at *; omega) (by unfold B32 at *; omega)
        have := go 0 z.symm
        rw [Int.sub_zero] at this
        simpa [g', g5, b', w1, w2, wi1, t1, t2] using this
    · obtain rfl : i = l0.length := by omega
      refine ⟨l5, c, by simp, d5, h5, c0, ?_⟩
      rw [List.take_of_length_le (by omega), List.take_of_length_le (l := l0) (by omega)] at hv
      exact hv
theorem rl_len_mono {a b : Int} (h : a ≤ b) : (rl a).length ≤ (rl b).length := by
  by_cases h0 : 0 < a
  · rw [rl_pos h0, rl_pos (n := b) (by omega), List.length_cons, List.length_cons]
    have := rl_len_mono (a := a / B32) (b := b / B32) (by unfold B32; omega)
    omega
  · rw [rl_zero (by omega)]; simp
termination_by a.toNat
decreasing_by unfold B32; omega
theorem minus_ok {K : Nat} (hK : 2000 ≤ K) {a b : Int} (b0 : 0 ≤ b) (hab : b ≤ a) (ha : (rl a).length ≤ 1000) : F.r1_Minus K (rl a) (rl b) = some (rl (a - b)) := by
  have hlb := rl_len_mono hab
  obtain ⟨r, c', h1, h2, h3, h4, h5⟩ := minus_loop (K := K) (dg_rl a) (dg_rl b) (by omega) K 0 0 (List.replicate (rl a).length 0) (by simp) (dg_zeros _) (by decide) (by decide) (by simp [vr]) (by omega) (by omega)
  have h1' : F.r1_Minus_l4 K K (rl a) (rl b) (List.replicate (rl a).length 0) 0 (rl a).length 0 = some r := h1
  rw [List.take_of_length_le hlb, vr_rl (by omega), vr_rl b0] at h5
  have hlt := vr_lt h2
  rw [h3] at hlt
  have hc : c' = 0 := by
    have hp : (0 : Int) < B32 ^ (rl a).length := Int.pow_pos (by decide)
    rcases Int.lt_or_eq_of_le h4 with h | h
    · have : 1 * B32 ^ (rl a).length ≤ c' * B32 ^ (rl a).length := Int.mul_le_mul_of_nonneg_right (by omega) (by omega)
      omega
    · exact h.symm
  rw [hc] at h5
  have L : ((rl a).length : Int) ≤ 17592186044416 := by omega
  unfold F.r1_Minus
  rw [if_pos (by simp; omega), Int.toNat_natCast, h1', oB, norm_ok h2 (by omega) (by omega), show vr r = a - b by omega, oB]
end Go.Proofs.Ytimhhefngigfeaa.Wide

namespace Go.Proofs.Ytimhhefngigfeaa.Wide
open Go Go.RowKit Go.Proofs.Ytimhhefngigfeaa.Vm
theorem vr_take_lt {l : List Int} (d : Dg l) {m : Nat} (h : m ≤ l.length) : vr (l.take m) < B32 ^ m ∧ 0 ≤ vr (l.take m) := by
  have d' : Dg (l.take m) := fun x hx => d x (List.mem_of_mem_take hx)
  have := vr_lt d'
  rw [List.length_take, Nat.min_eq_left h] at this
  exact ⟨this, vr_nonneg d'⟩
theorem digit_lt {x y P u v : Int} (h : x < y) (hP : 0 < P) (hu : u < P) (hv : 0 ≤ v) : u + x * P < v + y * P := by
  have := Int.mul_le_mul_of_nonneg_right (show x + 1 ≤ y by omega) (show 0 ≤ P by omega)
  rw [Int.add_mul, Int.one_mul] at this
  omega
theorem compare_loop {K : Nat} {l0 l1 : List Int} (d0 : Dg l0) (d1 : Dg l1) (hl : l0.length = l1.length) (hM : l0.length < 900000) : ∀ (k m : Nat), m < k → m ≤ l0.length → vr l0 - vr (l0.take m) = vr l1 - vr (l1.take m) →
    F.r1_Compare_l6 K k l0 l1 ((m : Int) - 1) = some (if vr l0 < vr l1 then .inr (-1) else if vr l1 < vr l0 then .inr 1 else .inl ())
  | 0, m, h, _, _ => by omega
  | k + 1, m, h, hm, hv => by
    rw [F.r1_Compare_l6]
    cases m with
    | zero =>
      simp only [List.take_zero, vr] at hv
      rw [if_neg (show ¬ vr l0 < vr l1 by omega), if_neg (show ¬ vr l1 < vr l0 by omega)]
      simp
    | succ m =>
      rw [show ((m + 1 : Nat) : Int) - 1 = (m : Int) by omega]
      simp only [Int.toNat_natCast]
      have g0 : (m : Int) < (l0.length : Int) := by omega
      have g1 : (m : Int) < (l1.length : Int) := by omega
      have hP : (0 : Int) < B32 ^ m := Int.pow_pos (by decide)
      obtain ⟨u0, u1⟩ := vr_take_lt d0 (m := m) (by omega)
      obtain ⟨v0, v1⟩ := vr_take_lt d1 (m := m) (by omega)
      rw [vr_take', vr_take'] at hv
      rcases Int.lt_trichotomy (nth 0 l0 m) (nth 0 l1 m) with c | c | c
      · have := digit_lt c hP u0 v1
        rw [if_pos (show vr l0 < vr l1 by omega)]
        simp [g0, g1, c]
      · have ih := compare_loop (K := K) d0 d1 hl hM k m (by omega) (by omega) (by rw [c] at hv; omega)
        rw [show IntKind.i64.wrap ((m : Int) - 1) = (m : Int) - 1 from iw (by omega) (by omega)]
        simp [g0, g1, c, ih]
      · have := digit_lt c hP v0 u1
        have c' : ¬ nth 0 l0 m < nth 0 l1 m := by omega
        rw [if_neg (show ¬ vr l0 < vr l1 by omega), if_pos (show vr l1 < vr l0 by omega)]
        simp [g0, g1, c, c']
theorem rl_len_lt {a b : Int} (h : (rl a).length < (rl b).length) : a < b := by
  apply Int.lt_of_not_ge
  intro hge
  have := rl_len_mono hge
  omega
theorem compare_ok {K : Nat} (hK : 2000 ≤ K) {a b : Int} (a0 : 0 ≤ a) (b0 : 0 ≤ b) (ha : (rl a).length ≤ 1000) : F.r1_Compare K (rl a) (rl b) = some (cmp3 a b) := by
  unfold F.r1_Compare
  by_cases e : (rl a).length = (rl b).length
  · have key := compare_loop (K := K) (dg_rl a) (dg_rl b) e (by omega) K (rl a).length (by omega) (Nat.le_refl _) (by rw [List.take_of_length_le (Nat.le_refl _), List.take_of_length_le (l := rl b) (by omega)]; omega)
    rw [vr_rl a0, vr_rl b0] at key
    rw [show IntKind.i64.wrap (((rl a).length : Int) - 1) = ((rl a).length : Int) - 1 from iw (by omega) (by omega), key]
    rw [if_neg (by rw [e]; simp)]
    unfold cmp3
    by_cases c1 : a < b
    · simp [casO, c1]
    · by_cases c2 : b < a
      · simp [casO, c1, c2]
      · simp [casO, c1, c2]
  · have e' : ¬ ((rl a).length : Int) = ((rl b).length : Int) := by omega
    unfold cmp3
    by_cases c : (rl a).length < (rl b).length
    · have c' : ((rl a).length : Int) < ((rl b).length : Int) := by omega
      have := rl_len_lt c
      rw [if_pos this]
      simp [e', c']
    · have := rl_len_lt (a := b) (b := a) (by omega)
      have c' : ¬ ((rl a).length : Int) < ((rl b).length : Int) := by omega
      rw [if_neg (show ¬ a < b by omega), if_pos this]
      simp [e', c']
end Go.Proofs.Ytimhhefngigfeaa.Wide

namespace Go.Proofs.Ytimhhefngigfeaa.Wide
open Go Go.RowKit Go.Proofs.Ytimhhefngigfeaa.Vm
theorem nth_rl : ∀ (i : Nat) {a : Int}, 0 ≤ a → nth 0 (rl a) i = a / B32 ^ i % B32
  | 0, a, h => by
    by_cases c : 0 < a
    · rw [rl_pos c]; simp [nth]
    · rw [rl_zero (by omega), show a = 0 by omega]; rfl
  | i + 1, a, h => by
    by_cases c : 0 < a
    · rw [rl_pos c]
      show nth 0 (rl (a / B32)) i = _
      rw [nth_rl i (by unfold B32; omega), Int.pow_succ, Int.mul_comm, Int.ediv_ediv_of_nonneg (by decide)]
    · rw [rl_zero (by omega), show a = 0 by omega]; simp [nth]
theorem len_rl_le {a : Int} {n : Nat} (h : (rl a).length = n + 1) : B32 ^ n ≤ a ∧ a < B32 ^ (n + 1) := by
  constructor
  · apply Int.le_of_not_gt
    intro hlt
    have := rl_len_le hlt
    omega
  · have h0 : 0 ≤ a := by
      apply Int.le_of_not_gt
      intro hn
      rw [rl_zero (by omega)] at h; simp at h
    have := vr_lt (dg_rl a)
    rw [vr_rl h0, h] at this
    exact this
theorem b32_pow (n : Nat) : B32 ^ n = 2 ^ (32 * n) := by
  rw [Int.pow_mul, show (2 : Int) ^ 32 = B32 by decide]
theorem blen_half {x : Int} (h : 0 < x) : blen x = blen (x / 2) + 1 := by
  by_cases c : 2 ≤ x
  · have := blen_shift (x := x) 1 (by omega)
    rw [this]; simp; omega
  · rw [show x = 1 by omega]; decide
theorem size_loop {K : Nat} : ∀ (k : Nat) (n x : Int), 0 ≤ n → n + k ≤ 1000000 → 0 ≤ x → x < 2 ^ k → x < 18446744073709551616 → k ≤ 64 → ∀ j, k < j → F.r1_Size_l5 K j n x = some (n + blen x)
  | 0, n, x, n0, n1, x0, x1, x2, hk, j, hj => by
    obtain ⟨j, rfl⟩ : ∃ i, j = i + 1 := ⟨j - 1, by omega⟩
    rw [F.r1_Size_l5]
    have : x = 0 := by simp at x1; omega
    subst this
    simp [blen]
  | k + 1, n, x, n0, n1, x0, x1, x2, hk, j, hj => by
    obtain ⟨j, rfl⟩ : ∃ i, j = i + 1 := ⟨j - 1, by omega⟩
    rw [F.r1_Size_l5]
    by_cases c : 0 < x
    · rw [if_pos (by simpa using c), td _ x0, uw (by omega) (by omega), iw (by omega) (by omega)]
      rw [size_loop k (n + 1) (x / 2) (by omega) (by omega) (by omega) (by rw [Int.pow_succ] at x1; omega) (by omega) (by omega) j (by omega), blen_half c]
      congr 1; omega
    · rw [if_neg (by simpa using c), show x = 0 by omega]
      simp [blen]
theorem size_ok {K : Nat} (hK : 2000 ≤ K) {a : Int} (a0 : 0 ≤ a) (ha : (rl a).length ≤ 1000) : F.r1_Size K (rl a) = some (blen a) := by
  unfold F.r1_Size
  cases e : (rl a).length with
  | zero =>
    have : a = 0 := by
      have h := vr_rl a0
      rw [List.length_eq_zero_iff.1 e, vr] at h; exact h.symm
    subst this
    simp [blen]
  | succ n =>
    obtain ⟨h1, h2⟩ := len_rl_le e
    have hp : (0 : Int) < B32 ^ n := Int.pow_pos (by decide)
    have hd0 : 0 < a / B32 ^ n := Int.lt_of_lt_of_le (by decide) ((Int.le_ediv_iff_mul_le hp).2 (by omega) : 1 ≤ a / B32 ^ n)
    have hd1 : a / B32 ^ n < B32 := (Int.ediv_lt_iff_lt_mul hp).2 (by rw [Int.mul_comm, ← Int.pow_succ]; exact h2)
    have hn := nth_rl n a0
    rw [Int.emod_eq_of_lt (by omega) hd1] at hn
    have hs := blen_shift (x := a) (32 * n) (by rw [← b32_pow]; exact h1)
    rw [← b32_pow] at hs
    have key := size_loop (K := K) 33 (32 * (n : Int)) (a / B32 ^ n) (by omega) (by omega) (by omega) (by unfold B32 at *; omega) (by unfold B32 at *; omega) (by decide) K (by omega)
    have i1 : IntKind.i64.wrap (((n + 1 : Nat) : Int) - 1) = (n : Int) := by rw [iw (by omega) (by omega)]; omega
    have i2 : IntKind.i64.wrap (32 * (n : Int)) = 32 * (n : Int) := iw (by omega) (by omega)
    have g : ¬ ((n : Int) + 1 = 0) := by omega
    have g2 : (n : Int) < (n : Int) + 1 := by omega
    have hk : (((32 * n : Nat) : Int)) = 32 * (n : Int) := by omega
    rw [i1, i2, Int.toNat_natCast, hn, key, hs, hk]
    rw [if_neg (by simp; omega), if_pos (by simp; omega), oB]
end Go.Proofs.Ytimhhefngigfeaa.Wide

namespace Go.Proofs.Ytimhhefngigfeaa.Wide
open Go Go.RowKit Go.Proofs.Ytimhhefngigfeaa.Vm
theorem vr_zeros : ∀ n : Nat, vr (List.replicate n 0) = 0
  | 0 => rfl
  | n + 1 => by rw [List.replicate_succ, vr, vr_zeros n]; rfl
theorem left_step_mul (u S x P Z t c : Int) (ht : t = x * S + c) (h : u + c * P = Z) : u + t % B32 * P + t / B32 * (P * B32) = Z + x * S * P := by
  have e := dm t P
  have e2 : t * P = x * S * P + c * P := by rw [ht, Int.add_mul]
  omega
theorem rleft_loop {K : Nat} {l : List Int} (d : Dg l) (hM : l.length ≤ 1000) {n : Int} {s z : Nat} (hs : n.tmod 32 = (s : Int)) (hs1 : s < 32) (hz : z ≤ 1000) : ∀ (k i : Nat) (c : Int) (l5 : List Int), l5.length = z + i → Dg l5 → 0 ≤ c → c < B32 → vr l5 + c * B32 ^ (z + i) = B32 ^ z * 2 ^ s * vr (l.take i) → i ≤ l.length → l.length - i < k →
    ∃ r c', F.r1_Left_l4 K k n l5 c l l.length i = some (r, c') ∧ Dg r ∧ r.length = z + l.length ∧ 0 ≤ c' ∧ c' < B32 ∧ vr r + c' * B32 ^ (z + l.length) = B32 ^ z * 2 ^ s * vr l
  | 0, i, c, l5, _, _, _, _, _, _, h => by omega
  | k + 1, i, c, l5, h5, d5, c0, c1, hv, hi, hk => by
    rw [F.r1_Left_l4, hs]
    simp only [Int.toNat_natCast]
    by_cases g : i < l.length
    · have g' : (i : Int) < (l.length : Int) := by omega
      have b := nth_bd d i
      have hS0 : (0 : Int) < 2 ^ s := Int.pow_pos (by decide)
      have hS1 : (2 : Int) ^ s ≤ 2147483648 := by
        have := pow_le (show s ≤ 31 by omega)
        have e : (2 : Int) ^ 31 = 2147483648 := by decide
        omega
      have m := mul_le (a := nth 0 l i) (b := 2 ^ s) (A := 4294967295) (B := 2147483648) b.1 (by unfold B32 at b; omega) (by omega) hS1
      have w1 : IntKind.u64.wrap (nth 0 l i * 2 ^ s) = nth 0 l i * 2 ^ s := uw m.1 (by omega)
      have w2 : IntKind.u64.wrap (nth 0 l i * 2 ^ s + c) = nth 0 l i * 2 ^ s + c := uw (by omega) (by unfold B32 at c1; omega)
      have w3 : IntKind.u64.wrap ((nth 0 l i * 2 ^ s + c) / 4294967296) = (nth 0 l i * 2 ^ s + c) / 4294967296 := uw (by omega) (by unfold B32 at c1; omega)
      have wi1 : IntKind.i64.wrap ((i : Int) + 1) = ((i + 1 : Nat) : Int) := by rw [iw (by omega) (by omega)]; omega
      have mn : min s 64 = s := by omega
      have L : l5.length + 1 ≤ 17592186044416 := by omega
      have sn : ¬ ((s : Int) < 0) := by omega
      have ih := rleft_loop (K := K) d hM hs hs1 hz k (i + 1) ((nth 0 l i * 2 ^ s + c) / B32) (l5 ++ [(nth 0 l i * 2 ^ s + c) % B32]) (by rw [List.length_append]; simp; omega) (dg_append d5 (by unfold B32; omega) (by unfold B32; omega)) (by unfold B32 at *; omega) (by unfold B32 at *; omega) (by
        rw [vr_append, vr_take', h5, show z + (i + 1) = (z + i) + 1 by omega, Int.pow_succ]
        have e := left_step_mul (vr l5) (2 ^ s) (nth 0 l i) (B32 ^ (z + i)) _ _ c rfl hv
        rw [e, Int.mul_add]
        congr 1
        rw [Int.pow_add]
        simp only [Int.mul_comm, Int.mul_left_comm, Int.mul_assoc]) (by omega) (by omega)
      rw [mn, w1, w2, tm _ (by omega), td _ (by omega), w3, wi1]
      simpa [g', L, sn] using ih
    · obtain rfl : i = l.length := by omega
      rw [List.take_of_length_le (Nat.le_refl _)] at hv
      exact ⟨l5, c, by simp, d5, h5, c0, c1, hv⟩
theorem rleft_ok {K : Nat} (hK : 4000 ≤ K) {a n : Int} (a0 : 0 ≤ a) (ha : (rl a).length ≤ 1000) (n0 : 0 ≤ n) (n1 : n ≤ 30000) : F.r1_Left K (rl a) n = some (rl (a * 2 ^ n.toNat)) := by
  obtain ⟨z, hz⟩ : ∃ z : Nat, (z : Int) = n / 32 := ⟨(n / 32).toNat, by omega⟩
  obtain ⟨s, hs⟩ : ∃ s : Nat, (s : Int) = n % 32 := ⟨(n % 32).toNat, by omega⟩
  have e1 : n.tdiv 32 = (z : Int) := by rw [td _ n0]; omega
  have e2 : n.tmod 32 = (s : Int) := by rw [tm _ n0]; omega
  have w : IntKind.i64.wrap (z : Int) = (z : Int) := iw (by omega) (by omega)
  obtain ⟨r, c, h1, h2, h3, h4, h5, h6⟩ := rleft_loop (K := K) (dg_rl a) ha e2 (by omega) (z := z) (by omega) K 0 0 (List.replicate z 0) (by simp) (dg_zeros z) (by decide) (by decide) (by simp [vr, vr_zeros]) (by omega) (by omega)
  have h1' : F.r1_Left_l4 K K n (List.replicate z 0) 0 (rl a) (rl a).length 0 = some (r, c) := h1
  rw [vr_rl a0] at h6
  unfold F.r1_Left
  rw [e1, w, Int.toNat_natCast, h1', if_pos (by simp; omega), oB]
  have L : r.length + 1 ≤ 17592186044416 := by omega
  have hn := norm_ok (K := K) (l := r ++ [c]) (dg_append h2 h4 h5) (by simp; omega) (by simp; omega)
  have hp : B32 ^ z * 2 ^ s = 2 ^ n.toNat := by rw [b32_pow, ← Int.pow_add]; congr 1; omega
  rw [vr_append, h3, h6, hp, Int.mul_comm] at hn
  simp only [hn]
  rw [if_pos (by simpa using L), oB]
end Go.Proofs.Ytimhhefngigfeaa.Wide

namespace Go.Proofs.Ytimhhefngigfeaa.Wide
open Go Go.RowKit Go.Proofs.Ytimhhefngigfeaa.Vm
theorem vr_set : ∀ {l : List Int} {n : Nat} (x : Int), n < l.length → vr (l.set n x) = vr l + (x - nth 0 l n) * B32 ^ n
  | [], n, x, h => by simp at h
  | y :: l, 0, x, h => by simp [vr, nth]; omega
  | y :: l, n + 1, x, h => by
    have ih := vr_set (l := l) (n := n) x (by simpa using h)
    simp only [List.set_cons_succ, vr, nth, ih, Int.pow_succ]
    rw [Int.mul_add, Int.mul_left_comm, Int.mul_comm (B32 ^ n) B32]
    omega
theorem nth_set_ne : ∀ {l : List Int} {n m : Nat} (x : Int), n ≠ m → nth 0 (l.set n x) m = nth 0 l m
  | [], n, m, x, h => by simp
  | y :: l, 0, 0, x, h => absurd rfl h
  | y :: l, 0, m + 1, x, h => rfl
  | y :: l, n + 1, 0, x, h => rfl
  | y :: l, n + 1, m + 1, x, h => by
    simp only [List.set_cons_succ, nth]
    exact nth_set_ne x (by omega)
theorem times_inner {K : Nat} {l0 l1 : List Int} (d0 : Dg l0) (d1 : Dg l1) (h0 : l0.length ≤ 1000) (h1 : l1.length ≤ 1000) {i : Nat} (hi : i < l0.length) {x16 : Int} {V : Int} : ∀ (k j : Nat) (c : Int) (l5 : List Int), l5.length = l0.length + l1.length → Dg l5 → 0 ≤ c → c < B32 → (∀ p, i + l1.length ≤ p → nth 0 l5 p = 0) → vr l5 + c * B32 ^ (i + j) = V + nth 0 l0 i * vr (l1.take j) * B32 ^ i → j ≤ l1.length → l1.length - j < k →
    ∃ r c', F.r1_Times_l7 K k l0 l1 l5 i c x16 i l1.length j = some (l0, l1, r, (i : Int), c', x16, (i : Int)) ∧ Dg r ∧ r.length = l0.length + l1.length ∧ 0 ≤ c' ∧ c' < B32 ∧ (∀ p, i + l1.length ≤ p → nth 0 r p = 0) ∧ vr r + c' * B32 ^ (i + l1.length) = V + nth 0 l0 i * vr l1 * B32 ^ i
  | 0, j, c, l5, _, _, _, _, _, _, _, h => by omega
  | k + 1, j, c, l5, h5, d5, c0, c1, hz, hv, hj, hk => by
    rw [F.r1_Times_l7]
    have wij : IntKind.i64.wrap ((i : Int) + (j : Int)) = ((i + j : Nat) : Int) := by rw [iw (by omega) (by omega)]; omega
    rw [wij]
    simp only [Int.toNat_natCast]
    by_cases g : j < l1.length
    · have g' : (j : Int) < (l1.length : Int) := by omega
      have gi : (i : Int) < (l0.length : Int) := by omega
      have g5 : (i : Int) + (j : Int) < (l5.length : Int) := by omega
      have g5' : ((i + j : Nat) : Int) < (l5.length : Int) := by omega
      have bx := nth_bd d0 i
      have by' := nth_bd d1 j
      have bc := nth_bd d5 (i + j)
      have m := mul_le (a := nth 0 l0 i) (b := nth 0 l1 j) (A := 4294967295) (B := 4294967295) bx.1 (by unfold B32 at bx; omega) by'.1 (by unfold B32 at by'; omega)
      have w1 : IntKind.u64.wrap (nth 0 l0 i * nth 0 l1 j) = nth 0 l0 i * nth 0 l1 j := uw m.1 (by omega)
      have w2 : IntKind.u64.wrap (nth 0 l0 i * nth 0 l1 j + nth 0 l5 (i + j)) = nth 0 l0 i * nth 0 l1 j + nth 0 l5 (i + j) := uw (by omega) (by unfold B32 at bc; omega)
      have w3 : IntKind.u64.wrap (c + (nth 0 l0 i * nth 0 l1 j + nth 0 l5 (i + j))) = c + (nth 0 l0 i * nth 0 l1 j + nth 0 l5 (i + j)) := uw (by omega) (by unfold B32 at bc c1; omega)
      have wi1 : IntKind.i64.wrap ((j : Int) + 1) = ((j + 1 : Nat) : Int) := by rw [iw (by omega) (by omega)]; omega
      obtain ⟨t, ht⟩ : ∃ t, t = c + (nth 0 l0 i * nth 0 l1 j + nth 0 l5 (i + j)) := ⟨_, rfl⟩
      have t0 : 0 ≤ t := by omega
      have t1 : t < 18446744073709551616 := by unfold B32 at bc c1; omega
      have w4 : IntKind.u64.wrap (t / 4294967296) = t / 4294967296 := uw (by omega) (by omega)
      rw [w1, w2, w3, ← ht, tm _ t0, td _ t0, w4, wi1]
      have ih := times_inner (K := K) d0 d1 h0 h1 hi (x16 := x16) (V := V) k (j + 1) (t / B32) (l5.set (i + j) (t % B32)) (by simp [h5]) (dg_set d5 (by unfold B32; omega) (by unfold B32; omega)) (by unfold B32; omega) (by unfold B32; omega) (fun p hp => by rw [nth_set_ne _ (by omega)]; exact hz p hp) (by
        rw [vr_set _ (by omega), vr_take', show i + (j + 1) = (i + j) + 1 by omega, Int.pow_succ]
        have e := dm t (B32 ^ (i + j))
        have e2 : t * B32 ^ (i + j) = c * B32 ^ (i + j) + nth 0 l0 i * (nth 0 l1 j * B32 ^ j) * B32 ^ i + nth 0 l5 (i + j) * B32 ^ (i + j) := by
          rw [ht, Int.add_mul, Int.add_mul, Int.pow_add]
          simp only [Int.mul_comm, Int.mul_left_comm, Int.mul_assoc]
          omega
        rw [Int.sub_mul, Int.mul_add, Int.add_mul]
        omega) (by omega) (by omega)
      have gp : 0 ≤ (i : Int) + (j : Int) := by omega
      simpa [g', gi, g5, g5', gp] using ih
    · obtain rfl : j = l1.length := by omega
      rw [List.take_of_length_le (Nat.le_refl _)] at hv
      exact ⟨l5, c, by simp, d5, h5, c0, c1, hz, hv⟩
theorem times_outer {K : Nat} {l0 l1 : List Int} (hK : 2000 ≤ K) (d0 : Dg l0) (d1 : Dg l1) (h0 : l0.length ≤ 1000) (h1 : l1.length ≤ 1000) : ∀ (k i : Nat) (l5 : List Int), l5.length = l0.length + l1.length → Dg l5 → (∀ p, i + l1.length ≤ p → nth 0 l5 p = 0) → vr l5 = vr (l0.take i) * vr l1 → i ≤ l0.length → l0.length - i < k →
    ∃ r, F.r1_Times_l3 K k l0 l1 l5 l0.length i = some r ∧ Dg r ∧ r.length = l0.length + l1.length ∧ vr r = vr l0 * vr l1
  | 0, i, l5, _, _, _, _, _, h => by omega
  | k + 1, i, l5, h5, d5, hz, hv, hi, hk => by
    rw [F.r1_Times_l3]
    by_cases g : i < l0.length
    · have g' : (i : Int) < (l0.length : Int) := by omega
      obtain ⟨r, c, e1, e2, e3, e4, e5, e6, e7⟩ := times_inner (K := K) d0 d1 h0 h1 g (x16 := l0.length) (V := vr l5) K 0 0 l5 h5 d5 (by decide) (by decide) hz (by simp [vr]) (by omega) (by omega)
      have e1' : F.r1_Times_l7 K K l0 l1 l5 i 0 l0.length i l1.length 0 = some (l0, l1, r, (i : Int), c, (l0.length : Int), (i : Int)) := e1
      have wij : IntKind.i64.wrap ((i : Int) + (l1.length : Int)) = ((i + l1.length : Nat) : Int) := by rw [iw (by omega) (by omega)]; omega
      have wi1 : IntKind.i64.wrap ((i : Int) + 1) = ((i + 1 : Nat) : Int) := by rw [iw (by omega) (by omega)]; omega
      have g5 : ((i + l1.length : Nat) : Int) < (r.length : Int) := by omega
      have g5' : (i : Int) + (l1.length : Int) < (r.length : Int) := by omega
      have z := e6 (i + l1.length) (by omega)
      have wc : IntKind.u64.wrap (0 + c) = c := by rw [Int.zero_add]; exact uw e4 (by unfold B32 at e5; omega)
      have ih := times_outer hK d0 d1 h0 h1 k (i + 1) (r.set (i + l1.length) c) (by simp [e3]) (dg_set e2 e4 e5) (fun p hp => by rw [nth_set_ne _ (by omega)]; exact e6 p (by omega)) (by
        rw [vr_set _ (by omega), z, Int.sub_zero, e7, hv, vr_take', Int.add_mul]
        simp only [Int.mul_comm, Int.mul_left_comm, Int.mul_assoc]) (by omega) (by omega)
      rw [e1']
      simp only [oB, wij, Int.toNat_natCast, z, wc, wi1]
      have gp : 0 ≤ (i : Int) + (l1.length : Int) := by omega
      simpa [g', g5, g5', gp] using ih
    · obtain rfl : i = l0.length := by omega
      rw [List.take_of_length_le (Nat.le_refl _)] at hv
      exact ⟨l5, by simp, d5, h5, hv⟩
theorem times_ok {K : Nat} (hK : 4000 ≤ K) {a b : Int} (a0 : 0 ≤ a) (b0 : 0 ≤ b) (ha : (rl a).length ≤ 1000) (hb : (rl b).length ≤ 1000) : F.r1_Times K (rl a) (rl b) = some (rl (a * b)) := by
  obtain ⟨N, hN⟩ : ∃ N, N = (rl a).length + (rl b).length := ⟨_, rfl⟩
  obtain ⟨r, h1, h2, h3, h4⟩ := times_outer (K := K) (by omega) (dg_rl a) (dg_rl b) ha hb K 0 (List.replicate N 0) (by simp [hN]) (dg_zeros _) (fun p hp => by
    by_cases h : p < N
    · rw [nth_eq_get (by simpa using h)]; simp
    · exact nth_out (by simp; omega)) (by simp [vr, vr_zeros]) (by omega) (by omega)
  have h1' : F.r1_Times_l3 K K (rl a) (rl b) (List.replicate N 0) (rl a).length 0 = some r := h1
  rw [vr_rl a0, vr_rl b0] at h4
  have w : IntKind.i64.wrap (((rl a).length : Int) + ((rl b).length : Int)) = (N : Int) := by rw [iw (by omega) (by omega)]; omega
  unfold F.r1_Times
  rw [w, Int.toNat_natCast, h1', if_pos (by simp; omega), oB, norm_ok h2 (by omega) (by omega), h4, oB]
end Go.Proofs.Ytimhhefngigfeaa.Wide

namespace Go.Proofs.Ytimhhefngigfeaa.Wide
open Go Go.RowKit Go.Proofs.Ytimhhefngigfeaa.Vm
end Go.Proofs.Ytimhhefngigfeaa.Wide

namespace Go.Proofs.Ytimhhefngigfeaa.Wide
open Go Go.RowKit Go.Proofs.Ytimhhefngigfeaa.Vm
theorem top_pow : B32 ^ 12 = TOP := by
  have e : ∀ n m : Nat, B32 ^ (n + m) = B32 ^ n * B32 ^ m := fun n m => Int.pow_add B32 n m
  rw [show (12 : Nat) = 6 + 6 from rfl, e, show B32 ^ 6 = 6277101735386680763835789423207666416102355444464034512896 from by decide]
  unfold TOP; decide
theorem len_top {a : Int} (h : a < TOP) : (rl a).length ≤ 12 := rl_len_le (by rw [top_pow]; exact h)
theorem rten_loop {K : Nat} (hK : 4000 ≤ K) {x : Int} (hx : x ≤ 36) : ∀ (k : Nat) (i : Int), 0 ≤ i → i ≤ x → (x - i).toNat < k → F.r1_Ten_l3 K k (rl (p10z i)) x i = some (rl (p10z x))
  | 0, i, _, _, h => by omega
  | k + 1, i, i0, i1, h => by
    rw [F.r1_Ten_l3]
    by_cases c : i < x
    · have b := p10z_bd (k := i) i0 (by omega)
      have hw := word_ok (K := K) (by omega) (x := 10) (by decide)
      have ht := times_ok hK (a := p10z i) (b := 10) (by omega) (by decide) (by have := len_top (a := p10z i) (by unfold TOP; omega); omega) (by have := len_top (a := 10) (by unfold TOP; omega); omega)
      rw [← p10z_succ i0] at ht
      have wi : IntKind.i64.wrap (i + 1) = i + 1 := iw (by omega) (by omega)
      have ih := rten_loop hK hx k (i + 1) (by omega) (by omega) (by omega)
      simp [c, hw, ht, wi, ih]
    · have : i = x := by omega
      subst this
      simp
theorem rten_ok {K : Nat} (hK : 4000 ≤ K) {x : Int} (x0 : 0 ≤ x) (x1 : x ≤ 36) : F.r1_Ten K x = some (rl (p10z x)) := by
  have hw := word_ok (K := K) (by omega) (x := 1) (by decide)
  have key := rten_loop hK x1 K 0 (by decide) x0 (by omega)
  rw [show p10z 0 = 1 from rfl] at key
  unfold F.r1_Ten
  rw [hw, oB, key, oB]
theorem made_ok {K : Nat} (hK : 3 ≤ K) {x : Int} (h : I64 x) : F.r1_Made K x = some (decide (x < 0), rl (if x < 0 then -x else x)) := by
  unfold I64 at h
  unfold F.r1_Made
  by_cases c : x < 0
  · have e : IntKind.u64.wrap (0 - IntKind.u64.wrap x) = -x := by rw [wu, wu]; omega
    rw [e, word_ok (x := -x) hK (by unfold Word; omega)]
    simp [c]
  · have e : IntKind.u64.wrap x = x := by rw [wu]; omega
    rw [e, word_ok (x := x) hK (by unfold Word; omega)]
    simp [c]
def sumS (b d : Bool) (A B : Int) : Bool × Int := if b = d then (b, A + B) else if B ≤ A then (b, A - B) else (d, B - A)
theorem sumS_val {b d : Bool} {A B : Int} (h0 : 0 ≤ A) (h1 : 0 ≤ B) : 0 ≤ (sumS b d A B).2 ∧ (sumS b d A B).2 ≤ A + B ∧ sgB (sumS b d A B).1 (sumS b d A B).2 = sgB b A + sgB d B := by
  unfold sumS sgB
  by_cases g : B ≤ A
  · cases b <;> cases d <;> simp [g] <;> omega
  · cases b <;> cases d <;> simp [g] <;> omega
theorem sum_ok {K : Nat} (hK : 2000 ≤ K) {b d : Bool} {A B : Int} (a0 : 0 ≤ A) (a1 : A < TOP) (b0 : 0 ≤ B) (b1 : B < TOP) : F.r1_Sum K b (rl A) d (rl B) = some ((sumS b d A B).1, rl (sumS b d A B).2) := by
  have lA := len_top a1
  have lB := len_top b1
  unfold F.r1_Sum sumS
  by_cases c : b = d
  · rw [plus_ok hK a0 b0 (by omega) (by omega)]
    simp [c]
  · rw [compare_ok hK a0 b0 (by omega)]
    by_cases g : B ≤ A
    · have e : cmp3 A B ≥ 0 := by unfold cmp3; rw [if_neg (by omega)]; split <;> omega
      rw [minus_ok hK b0 g (by omega)]
      simp [c, g, e]
    · have e : ¬ cmp3 A B ≥ 0 := by unfold cmp3; rw [if_pos (by omega)]; omega
      rw [minus_ok (a := B) (b := A) hK a0 (by omega) (by omega)]
      simp [c, g, e]
theorem product_ok {K : Nat} (hK : 4000 ≤ K) {b d : Bool} {A B : Int} (a0 : 0 ≤ A) (a1 : A < TOP) (b0 : 0 ≤ B) (b1 : B < TOP) : F.r1_Product K b (rl A) d (rl B) = some (!b == d, rl (A * B)) := by
  have lA := len_top a1
  have lB := len_top b1
  unfold F.r1_Product
  rw [times_ok hK a0 b0 (by omega) (by omega)]
  rfl
theorem rl_len_zero {n : Int} (h : 0 ≤ n) : ((rl n).length : Int) = 0 ↔ n = 0 := by
  constructor
  · intro e
    have := vr_rl h
    have e0 : rl n = [] := List.length_eq_zero_iff.1 (by omega)
    rw [e0, vr] at this
    exact this.symm
  · rintro rfl; rw [rl_zero (by decide)]; rfl
theorem rsign_ok (K : Nat) {b : Bool} {n : Int} (h : 0 ≤ n) : F.r1_Sign K b (rl n) = some (cmp3 (sgB b n) 0) := by
  unfold F.r1_Sign
  have e := rl_len_zero h
  unfold cmp3 sgB
  by_cases c : n = 0
  · rw [if_pos (by simpa using e.2 c), c]; simp
  · rw [if_neg (by simpa using fun hh => c (e.1 hh))]
    cases b with
    | true => simp; omega
    | false => simp; rw [if_neg (by omega), if_pos (by omega)]
theorem form_ok (K : Nat) (a0 a1 a2 : Int) : F.r1_Form K a0 a1 a2 = some (decide (Fm a0 a1 a2)) := by
  unfold F.r1_Form
  by_cases c1 : a2 ≥ 0
  · by_cases c2 : a2 ≤ 18
    · by_cases c3 : a0 = -9223372036854775808
      · by_cases c4 : a1 = 0
        · rw [decide_eq_false (show ¬ Fm a0 a1 a2 by unfold Fm; omega)]; simp [c1, c2, c3, c4]
        · rw [decide_eq_true (show Fm a0 a1 a2 by unfold Fm; omega)]; simp [c1, c2, c3, c4]
      · rw [decide_eq_true (show Fm a0 a1 a2 by unfold Fm; omega)]; simp [c1, c2, c3]
    · rw [decide_eq_false (show ¬ Fm a0 a1 a2 by unfold Fm; omega)]; simp [c1, c2]
  · rw [decide_eq_false (show ¬ Fm a0 a1 a2 by unfold Fm; omega)]; simp [c1]
theorem coef_ok {K : Nat} (hK : 4000 ≤ K) {hi lo sc : Int} (i : I64 hi) (l : Word lo) : F.r1_Coef K hi lo sc = some (decide (hi < 0), rl (siz hi lo)) := by
  have i' := i
  have l' := l
  unfold I64 at i'
  unfold Word at l'
  have hm : 0 ≤ (if hi < 0 then -hi else hi) ∧ (if hi < 0 then -hi else hi) ≤ 9223372036854775808 := by split <;> omega
  have hp : (2 : Int) ^ (64 : Int).toNat = 18446744073709551616 := by decide
  unfold F.r1_Coef
  rw [made_ok (by omega) i, oB]
  simp only
  rw [rleft_ok hK hm.1 (by have := len_top (a := (if hi < 0 then -hi else hi)) (by unfold TOP; omega); omega) (by decide) (by decide), hp, oB, word_ok (by omega) l, oB,
    sum_ok (by omega) (by omega) (by unfold TOP; omega) (by omega) (by unfold TOP; omega), oB]
  unfold sumS siz cf
  by_cases c : hi < 0
  · simp only [c, decide_true, if_true, Bool.true_eq_false, if_false]
    rw [if_pos (by omega)]
    congr 3
    omega
  · simp [c]
theorem dec_loop {K : Nat} {sc : Int} {a : Int} (a0 : 0 ≤ a) (a1 : a < 340282366920938463463374607431768211456) : ∀ (k i : Nat) (x7 x8 : Int), i ≤ (rl a).length → (rl a).length - i < k →
    (i ≤ 2 → x8 = 0 ∧ x7 = a % B32 ^ i) → (2 ≤ i → x7 = a % 18446744073709551616 ∧ x8 = a / 18446744073709551616 % B32 ^ (i - 2)) →
    F.r1_Dec_l9 K k sc x7 x8 (rl a) ((rl a).length : Int) i 0 0 0 = some (sc, a % 18446744073709551616, a / 18446744073709551616, 0, 0, 0)
  | 0, i, x7, x8, _, h, _, _ => by omega
  | k + 1, i, x7, x8, hi, hk, h7, h8 => by
    have hl : (rl a).length ≤ 4 := rl_len_le (by rw [show B32 ^ 4 = 340282366920938463463374607431768211456 from by decide]; exact a1)
    rw [F.r1_Dec_l9]
    by_cases c : (i : Int) < ((rl a).length : Int)
    · have hn := nth_rl i a0
      have g : (0 : Int) ≤ (i : Int) := by omega
      have w1 : IntKind.i64.wrap ((i : Int) + 1) = ((i + 1 : Nat) : Int) := by rw [iw (by omega) (by omega)]; omega
      simp only [c, g, decide_true, if_true, Bool.and_self, Int.toNat_natCast, hn, w1]
      by_cases c2 : (i : Int) < 2
      · obtain ⟨e8, e7⟩ := h7 (by omega)
        have w2 : IntKind.i64.wrap (32 * (i : Int)) = 32 * (i : Int) := iw (by omega) (by omega)
        have n2 : ¬ (32 * (i : Int) < 0) := by omega
        simp only [c2, decide_true, if_true, w2, n2, decide_false, if_false, Bool.false_eq_true]
        refine dec_loop a0 a1 k (i + 1) _ _ (by omega) (by omega) (fun _ => ⟨e8, ?_⟩) (fun h => ?_)
        · have : i = 0 ∨ i = 1 := by omega
          rcases this with rfl | rfl
          · rw [e7, wu, wu, show min (32 * ((0 : Nat) : Int)).toNat 64 = 0 from rfl]
            simp only [Int.pow_zero, Nat.zero_add, Int.pow_one, Int.ediv_one]
            unfold B32; omega
          · rw [e7, wu, wu, show min (32 * ((1 : Nat) : Int)).toNat 64 = 32 from rfl, show (2 : Int) ^ 32 = 4294967296 from by decide]
            simp only [Int.pow_one]
            rw [show B32 ^ (1 + 1) = 18446744073709551616 from by decide]
            unfold B32; omega
        · have : i = 1 := by omega
          subst this
          refine ⟨?_, ?_⟩
          · rw [e7, wu, wu, show min (32 * ((1 : Nat) : Int)).toNat 64 = 32 from rfl, show (2 : Int) ^ 32 = 4294967296 from by decide]
            simp only [Int.pow_one]
            unfold B32; omega
          · rw [e8]; simp
      · obtain ⟨e7, e8⟩ := h8 (by omega)
        have w2 : IntKind.i64.wrap ((i : Int) - 2) = (i : Int) - 2 := iw (by omega) (by omega)
        have w3 : IntKind.i64.wrap (32 * ((i : Int) - 2)) = 32 * ((i : Int) - 2) := iw (by omega) (by omega)
        have n2 : ¬ (32 * ((i : Int) - 2) < 0) := by omega
        simp only [c2, decide_false, if_false, Bool.false_eq_true, w2, w3, n2]
        refine dec_loop a0 a1 k (i + 1) _ _ (by omega) (by omega) (fun h => by omega) (fun _ => ⟨e7, ?_⟩)
        have : i = 2 ∨ i = 3 := by omega
        rcases this with rfl | rfl
        · rw [e8, wu, wu, show min (32 * (((2 : Nat) : Int) - 2)).toNat 64 = 0 from rfl, show B32 ^ 2 = 18446744073709551616 from by decide]
          simp only [Int.pow_zero, show 2 + 1 - 2 = 1 from rfl, Nat.sub_self, Int.pow_one]
          unfold B32; omega
        · rw [e8, wu, wu, show min (32 * (((3 : Nat) : Int) - 2)).toNat 64 = 32 from rfl, show (2 : Int) ^ 32 = 4294967296 from by decide, show B32 ^ 3 = 79228162514264337593543950336 from by decide]
          simp only [show 3 - 2 = 1 from rfl, show 3 + 1 - 2 = 2 from rfl, Int.pow_one, show B32 ^ 2 = 18446744073709551616 from by decide]
          unfold B32; omega
    · have e : i = (rl a).length := by omega
      have hb : a < B32 ^ i := by
        have := vr_lt (dg_rl a)
        rw [vr_rl a0, ← e] at this; exact this
      simp only [c, decide_false, if_false, Bool.false_eq_true]
      by_cases c2 : i ≤ 2
      · obtain ⟨e8, e7⟩ := h7 c2
        have hp : B32 ^ i ≤ 18446744073709551616 := by
          have : i = 0 ∨ i = 1 ∨ i = 2 := by omega
          rcases this with h | h | h <;> rw [h] <;> decide
        have z : a / 18446744073709551616 = 0 := by omega
        rw [z, e8, e7, Int.emod_eq_of_lt a0 hb, Int.emod_eq_of_lt a0 (by omega)]
      · obtain ⟨e7, e8⟩ := h8 (by omega)
        have : i = 3 ∨ i = 4 := by omega
        rw [e7, e8]
        congr 3
        have hb2 : a / 18446744073709551616 < B32 ^ (i - 2) := by
          rcases this with h | h <;> rw [h] at hb ⊢ <;> simp only [show 3 - 2 = 1 from rfl, show 4 - 2 = 2 from rfl, show B32 ^ 3 = 79228162514264337593543950336 from by decide, show B32 ^ 4 = 340282366920938463463374607431768211456 from by decide, show B32 ^ 2 = 18446744073709551616 from by decide, Int.pow_one] at hb ⊢ <;> (try unfold B32) <;> omega
        congr 1
        exact Int.emod_eq_of_lt (by omega) hb2
theorem rdec_ok {K : Nat} (hK : 40000 ≤ K) {b : Bool} {n sc : Int} (h0 : 0 ≤ n) (h1 : n < TOP) : F.r1_Dec K b (rl n) sc = some (togD b n sc) := by
  have ln := len_top h1
  unfold F.r1_Dec
  rw [size_ok (by omega) h0 (by omega), oB, rsign_ok K h0]
  have hb : blen n > 127 ↔ ¬ n < 170141183460469231731687303715884105728 := by
    constructor
    · intro h c
      have := (blen_lt (n := 127) (by rw [p127]; exact c)).2
      omega
    · intro c
      apply Int.lt_of_not_ge
      intro h
      exact c (by have := blen_le (n := 127) (x := n) h; rwa [p127] at this)
  unfold togD
  by_cases c : n < 170141183460469231731687303715884105728
  · have hb' : ¬ blen n > 127 := fun h => hb.1 h c
    rw [if_pos c, if_neg (by simpa using hb')]
    by_cases s : sgB b n < 0
    · have hbt : b = true := by
        cases b with
        | true => rfl
        | false => simp [sgB] at s; omega
      subst hbt
      have hn : 0 < n := by simp [sgB] at s; exact s
      have e1 : cmp3 (sgB true n) 0 = -1 := by unfold cmp3; rw [if_pos s]
      have hw := word_ok (K := K) (by omega) (x := 1) (by decide)
      have hl := rleft_ok (by omega : 4000 ≤ K) (a := 1) (n := 128) (by decide) (by have := len_top (a := 1) (by unfold TOP; omega); omega) (by decide) (by decide)
      rw [show (1 : Int) * 2 ^ (128 : Int).toNat = 340282366920938463463374607431768211456 from by decide] at hl
      have hs := sum_ok (by omega : 2000 ≤ K) (b := true) (d := false) (A := n) (B := 340282366920938463463374607431768211456) h0 h1 (by decide) (by unfold TOP; omega)
      have he : sumS true false n 340282366920938463463374607431768211456 = (false, 340282366920938463463374607431768211456 - n) := by
        unfold sumS; rw [if_neg (by decide), if_neg (by omega)]
      rw [he] at hs
      have hd := dec_loop (K := K) (sc := sc) (a := 340282366920938463463374607431768211456 - n) (by omega) (by omega) K 0 0 0 (by omega) (by have := len_top (a := 340282366920938463463374607431768211456 - n) (by unfold TOP; omega); omega) (fun _ => ⟨rfl, by simp⟩) (fun h => by omega)
      have hd' : F.r1_Dec_l9 K K sc 0 0 (rl (340282366920938463463374607431768211456 - n)) ((rl (340282366920938463463374607431768211456 - n)).length : Int) 0 0 0 0 = _ := hd
      rw [oB, e1]
      simp only [show ((-1 : Int) < 0) = True from by simp, decide_true, if_true, hw, hl, hs, hd', oB]
      have w : IntKind.i64.wrap ((340282366920938463463374607431768211456 - n) / 18446744073709551616) = -n / 18446744073709551616 := by rw [wi]; omega
      rw [w, show (340282366920938463463374607431768211456 - n) % 18446744073709551616 = -n % 18446744073709551616 by omega]
    · have e1 : ¬ cmp3 (sgB b n) 0 < 0 := by unfold cmp3; rw [if_neg s]; split <;> omega
      have hd := dec_loop (K := K) (sc := sc) (a := n) (by omega) (by omega) K 0 0 0 (by omega) (by omega) (fun _ => ⟨rfl, by simp⟩) (fun h => by omega)
      have hd' : F.r1_Dec_l9 K K sc 0 0 (rl n) ((rl n).length : Int) 0 0 0 0 = _ := hd
      rw [oB]
      simp only [e1, decide_false, if_false, Bool.false_eq_true, hd', oB]
      have w : IntKind.i64.wrap (n / 18446744073709551616) = n / 18446744073709551616 := iw (by omega) (by omega)
      rw [w]
      have : (if b = true then -n else n) = n := by
        unfold sgB at s
        split at s
        · have : n = 0 := by omega
          subst this; split <;> rfl
        · rename_i hbf; rw [if_neg hbf]
      rw [this]
  · have hb' : blen n > 127 := hb.2 c
    rw [if_neg c, if_pos (by simpa using hb')]
end Go.Proofs.Ytimhhefngigfeaa.Wide

namespace Go.Proofs.Ytimhhefngigfeaa.Wide
open Go Go.RowKit Go.Proofs.Ytimhhefngigfeaa.Vm
theorem at_ok {K : Nat} (hK : 40000 ≤ K) {a0 a1 a2 s : Int} (ia : I64 a0) (la : Word a1) (h0 : 0 ≤ s - a2) (h1 : s - a2 ≤ 36) (hs : 0 ≤ a2) (hs1 : a2 ≤ 18) : F.r1_At K a0 a1 a2 s = some (decide (a0 < 0), rl (siz a0 a1 * p10z (s - a2))) := by
  obtain ⟨x2, x3⟩ := siz_bd ia la
  have p1 := p10z_bd h0 h1
  unfold F.r1_At
  rw [coef_ok (by omega) ia la, oB, iw (x := s - a2) (by omega) (by omega), rten_ok (by omega) h0 h1, oB]
  simp only
  rw [product_ok (by omega) x2 (by unfold TOP; omega) (by omega) (by unfold TOP; omega), oB]
  simp
end Go.Proofs.Ytimhhefngigfeaa.Wide

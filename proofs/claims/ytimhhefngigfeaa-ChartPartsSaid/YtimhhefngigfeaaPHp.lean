/- Chart: the law ChartParts. Conditions: none here. -/
import Derived.Test.YtimhhefngigfeaaPHx
import Derived.Test.YtimhhefngigfeaaFP
set_option linter.unusedVariables false
set_option linter.unusedSimpArgs false
namespace Go.Proofs.Ytimhhefngigfeaa.Wide
open Go Go.RowKit Go.Proofs.Ytimhhefngigfeaa.Vm
theorem ChartParts {K : Nat} (hK : 50000 ≤ K) {q0 q1 : List (List Int)} (w0 : WL q0) (w1 : WL q1) (l0 : q0.length ≤ 9223372036854775807) (l1 : q1.length ≤ 9223372036854775807) : F.law13_ChartParts K q0 q1 = some true := by
  unfold F.law13_ChartParts
  have cut : ∀ q : List (List Int), ∃ n : Nat, n ≤ 8 ∧ n ≤ q.length ∧ (if 8 < (q.length : Int) then (8 : Int) else (q.length : Int)) = (n : Int) := by
    intro q
    by_cases h : 8 < (q.length : Int)
    · exact ⟨8, by omega, by omega, by rw [if_pos h]; rfl⟩
    · exact ⟨q.length, by omega, by omega, by rw [if_neg h]⟩
  obtain ⟨n0, a1, a2, a3⟩ := cut q0
  obtain ⟨n1, b1, b2, b3⟩ := cut q1
  rw [awake13 hK, Option.bind_some]
  simp only [a3, b3, bi_eq, Bool.not_true, Bool.false_eq_true, if_false, Int.toNat_natCast, Nat.sub_zero, List.drop_zero, List.nil_append, Bool.true_and]
  have nw : F.chart_New K = some ([], 0) := rfl
  have wa : WL (q0.take n0) := fun x hx => w0 x (List.mem_of_mem_take hx)
  have wb : WL (q1.take n1) := fun x hx => w1 x (List.mem_of_mem_take hx)
  have la : (q0.take n0).length = n0 := by rw [List.length_take]; omega
  have lb : (q1.take n1).length = n1 := by rw [List.length_take]; omega
  have i0 : (Decidable.decide ((0 : Int) ≤ (n0 : Int)) && Decidable.decide ((n0 : Int) ≤ (q0.length : Int))) = true := by simp; omega
  have i1 : (Decidable.decide ((0 : Int) ≤ (n1 : Int)) && Decidable.decide ((n1 : Int) ≤ (q1.length : Int))) = true := by simp; omega
  rw [nw]
  simp only [Option.bind_some, i0, i1, if_true, la, lb, List.length_append]
  generalize q0.take n0 = a at wa la ⊢
  generalize q1.take n1 = b at wb lb ⊢
  obtain ⟨m1, p1, p2, p3⟩ := post13 (K := K) wa (by omega) (by omega) (LM.empty okA) β0_P (n := 0) (by omega) (by omega)
  rw [if_pos (decide_eq_true (by omega)), p1, Option.bind_some]
  simp only
  by_cases ca : codeP β0 a = 0
  · rw [if_neg (by simpa using ca), if_pos (decide_eq_true (by omega))]
    rw [ca, if_pos rfl] at p1
    rw [nextP_of ca] at p2 p3
    rw [if_pos ca]
    obtain ⟨m2, r1, r2, r3⟩ := post13 (K := K) wb (by omega) (by omega) p2 p3 (n := 0 + 1) (by omega) (by omega)
    rw [r1, Option.bind_some]
    simp only
    by_cases cb : codeP (addQ β0 a) b = 0
    · rw [if_neg (by simpa using cb), if_pos (decide_eq_true (by omega)), if_pos (decide_eq_true (by omega)), if_pos cb]
      obtain ⟨ha1, ha2, ha3⟩ := codeP_zero ca
      obtain ⟨hb1, hb2, hb3⟩ := codeP_zero cb
      obtain ⟨ka1, ka2, ka3⟩ := chk_zero ha1
      obtain ⟨kb1, kb2, kb3⟩ := chk_zero hb1
      have wab : WL (a ++ b) := fun x hx => (List.mem_append.1 hx).elim (wa x) (wb x)
      have cab : codeP β0 (a ++ b) = 0 := codeP_of (chk_of (by unfold allA at *; rw [List.all_append, ka1, kb1]; rfl) (by rw [List.length_append]; omega) (by unfold allM at *; rw [List.all_append, ka3, kb3]; rfl)) (fun c u => by rw [addQ_app]; exact hb2 c u) (fun u => by rw [sumC_app, ha3, hb3]; rfl)
      obtain ⟨m3, s1, s2, s3⟩ := post13 (K := K) wab (by rw [List.length_append]; omega) (by rw [List.length_append]; omega) (LM.empty okA) β0_P (n := 0) (by omega) (by omega)
      rw [s1, Option.bind_some]
      simp only
      rw [cab, if_pos rfl, show ((0 : Int) == 0) = true from rfl, if_pos rfl]
      rw [nextP_of cb] at r2
      rw [nextP_of cab, addQ_app] at s2
      have t1 := trial13 (K := K) (by omega) r2 (0 + 1 + 1)
      have t2 := trial13 (K := K) (by omega) s2 (0 + 1)
      have t3 := same13 (K := K) (asL_LQ (trL (addQ (addQ β0 a) b))) (by have := trL_len (addQ (addQ β0 a) b); omega) (by have := trL_len (addQ (addQ β0 a) b); omega)
      rw [t1, Option.bind_some, t2, Option.bind_some]
      simp only [toL_l]
      rw [t3]
      rfl
    · rw [if_pos (by simpa using cb)]
  · rw [if_pos (by simpa using ca)]
namespace L
theorem ChartParts {q0 q1 : List (List Int)} (w0 : q0.length ≤ maxLen ∧ ∀ y ∈ q0, KsOk [.i64, .i64, .i64, .u64, .i64] y) (w1 : q1.length ≤ maxLen ∧ ∀ y ∈ q1, KsOk [.i64, .i64, .i64, .u64, .i64] y) : F.law13_ChartParts 100000 q0 q1 = some true :=
  Wide.ChartParts (by omega) (fun x hx => wl_ks (w0.2 x hx)) (fun x hx => wl_ks (w1.2 x hx)) (Nat.le_trans w0.1 (by decide)) (Nat.le_trans w1.1 (by decide))
end L
end Go.Proofs.Ytimhhefngigfeaa.Wide

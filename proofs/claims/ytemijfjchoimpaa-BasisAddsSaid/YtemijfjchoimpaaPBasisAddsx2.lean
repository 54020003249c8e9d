-- PRINTED BY print.sh 35421559b90ae4d0a3588c463048766b98c2df88dd9212a6774a882060cdf62d: not written by this session
import Derived.Test.YtemijfjchoimpaaPBasisAddsx0
import Derived.Test.YtemijfjchoimpaaPBasisAddsx1
namespace Go.Proofs.Ytemijfjchoimpaa.PBasisAdds
open Go.RowKit Go.Proofs.YtemijfjchoimpaaW.PrintWords Go.Proofs.YtemijfjchoimpaaW.PrintLast Go.Proofs.YtemijfjchoimpaaW.PrintMore
attribute [local go_sem] max2_int min2_int max_two min_two max_three min_three max_four min_four   -- for this text's walks alone
set_option linter.unusedVariables false
set_option linter.unusedSimpArgs false

/-! ### cal_Length: function 21 -/
def cal_Length.f (k : Nat) (a0 : Int) (a1 : Int) : Option (Int × Int) := if a0 < 1 then (some (0, 1)) else (if a0 > 9999 then (some (0, 1)) else (if a1 < 1 then (some (0, 1)) else (if a1 > 12 then (some (0, 1)) else ((cal_length.f k a0 a1).bind fun t121 => (some (t121, 0))))))
theorem cal_Length.mono : ∀ a0 a1 k, LeO (cal_Length.f k a0 a1) (cal_Length.f (k + 1) a0 a1) := by
  intro a0 a1 k
  unfold cal_Length.f
  repeat' first
      | (with_reducible exact cal_length.mono _ _ _)
      | (with_reducible exact LeO.refl _)
      | (with_reducible exact LeO.none _)
      | (with_reducible refine LeO.ite ?_ ?_)
      | (with_reducible refine LeO.bind ?_ (fun _ => ?_))
      | exact cal_length.mono _ _ _
      | exact LeO.none _
      | refine LeO.ite ?_ ?_
      | refine LeO.bind ?_ (fun _ => ?_)
set_option maxHeartbeats 8000000 in
set_option maxRecDepth 100000 in
theorem cal_Length.calls (k : Nat) (a0 : Int) (a1 : Int) (r1 : Int) (r2 : Int) (w : World) (h : cal_Length.f k a0 a1 = some (r1, r2)) :
    Calls Try.prog 21 #[.int .i64 a0, .int .i64 a1] w fun e w' => e = .returned (.tuple #[.int .i64 r1, .int .i64 r2]) ∧ Drawn0 w w' := by
  have H : (if a0 < 1 then (some (0, 1)) else (if a0 > 9999 then (some (0, 1)) else (if a1 < 1 then (some (0, 1)) else (if a1 > 12 then (some (0, 1)) else ((cal_length.f k a0 a1).bind fun t121 => (some (t121, 0))))))) = some (r1, r2) := h
  clear h
  by_cases c3 : a0 < 1
  · rw [if_pos c3] at H
    have c3b0 : decide (a0 < 1) = true := decide_eq_true c3
    clear c3
    simp only [Option.some.injEq, Prod.mk.injEq] at H
    obtain ⟨rfl, rfl⟩ := H
    go_enter Try.func21, Try.ntmps21
    go_wp2
    go_ret2
    exact ⟨by first | rfl | (simp; done) | (simp [*]; done), by repeat (first | exact Drawn0.refl _ | apply Drawn0.step)⟩
  · rw [if_neg c3] at H
    have c3b0 : decide (a0 < 1) = false := decide_eq_false c3
    clear c3
    by_cases c4 : a0 > 9999
    · rw [if_pos c4] at H
      have c4b0 : decide (9999 < a0) = true := decide_eq_true c4
      clear c4
      simp only [Option.some.injEq, Prod.mk.injEq] at H
      obtain ⟨rfl, rfl⟩ := H
      go_enter Try.func21, Try.ntmps21
      go_wp2
      go_ret2
      exact ⟨by first | rfl | (simp; done) | (simp [*]; done), by repeat (first | exact Drawn0.refl _ | apply Drawn0.step)⟩
    · rw [if_neg c4] at H
      have c4b0 : decide (9999 < a0) = false := decide_eq_false c4
      clear c4
      by_cases c5 : a1 < 1
      · rw [if_pos c5] at H
        have c5b0 : decide (a1 < 1) = true := decide_eq_true c5
        clear c5
        simp only [Option.some.injEq, Prod.mk.injEq] at H
        obtain ⟨rfl, rfl⟩ := H
        go_enter Try.func21, Try.ntmps21
        go_wp2
        go_ret2
        exact ⟨by first | rfl | (simp; done) | (simp [*]; done), by repeat (first | exact Drawn0.refl _ | apply Drawn0.step)⟩
      · rw [if_neg c5] at H
        have c5b0 : decide (a1 < 1) = false := decide_eq_false c5
        clear c5
        by_cases c6 : a1 > 12
        · rw [if_pos c6] at H
          have c6b0 : decide (12 < a1) = true := decide_eq_true c6
          clear c6
          simp only [Option.some.injEq, Prod.mk.injEq] at H
          obtain ⟨rfl, rfl⟩ := H
          go_enter Try.func21, Try.ntmps21
          go_wp2
          go_ret2
          exact ⟨by first | rfl | (simp; done) | (simp [*]; done), by repeat (first | exact Drawn0.refl _ | apply Drawn0.step)⟩
        · rw [if_neg c6] at H
          have c6b0 : decide (12 < a1) = false := decide_eq_false c6
          clear c6
          replace H := Option.bind_eq_some_iff.mp H
          obtain ⟨t121, A70, H⟩ := H
          replace H : (some (t121, 0)) = some (r1, r2) := H
          have A7 := Aside0.mk A70
          clear A70
          simp only [Option.some.injEq, Prod.mk.injEq] at H
          obtain ⟨rfl, rfl⟩ := H
          go_enter Try.func21, Try.ntmps21
          go_wp2_with (first | ((with_reducible refine gate_callee (f := 40) rfl ?_); refine goesL_ (some 22) rfl rfl Try.func40 (by kernel_rfl) rfl #[.int .i64 a0, .int .i64 a1] rfl (by (try simp only [List.map_toArray, List.map_cons, List.map_nil]); first | done | rfl | (simp only [List.length_drop, List.length_take]; rfl)) ?_; (with_reducible refine (cal_length.calls k a0 a1 t121 _ A7.out).mono ?_); rintro e w' ⟨rfl, ⟨nd, rfl⟩⟩; refine ⟨_, rfl, ?_⟩))
          go_ret2
          exact ⟨by first | rfl | (simp; done) | (simp [*]; done), by repeat (first | exact Drawn0.refl _ | apply Drawn0.step)⟩

/-! ### basis_leaps: function 49 -/
def basis_leaps.f (k : Nat) (a0 : Int) : Option (Int × Int) := (cal_Civil.f k a0).bind fun bt122 => ((cal_Number.f k bt122.1 1 1).bind fun bt126 => ((cal_Length.f k bt122.1 2).bind fun bt128 => (if bt128.1 = 29 then (some (wrap64 ((wrap64 ((wrap64 (366 * (wrap64 ((wrap64 ((wrap64 (Int.tdiv (wrap64 (bt122.1 - 1)) 4)) - (wrap64 (Int.tdiv (wrap64 (bt122.1 - 1)) 100)))) + (wrap64 (Int.tdiv (wrap64 (bt122.1 - 1)) 400)))))) + a0)) - bt126.1), bt122.1)) else (some (wrap64 (366 * (wrap64 ((wrap64 ((wrap64 (Int.tdiv (wrap64 (bt122.1 - 1)) 4)) - (wrap64 (Int.tdiv (wrap64 (bt122.1 - 1)) 100)))) + (wrap64 (Int.tdiv (wrap64 (bt122.1 - 1)) 400))))), bt122.1)))))
theorem basis_leaps.mono : ∀ a0 k, LeO (basis_leaps.f k a0) (basis_leaps.f (k + 1) a0) := by
  intro a0 k
  unfold basis_leaps.f
  repeat' first
      | (with_reducible exact cal_Civil.mono _ _)
      | (with_reducible exact cal_Length.mono _ _ _)
      | (with_reducible exact cal_Number.mono _ _ _ _)
      | (with_reducible exact LeO.refl _)
      | (with_reducible exact LeO.none _)
      | (with_reducible refine LeO.ite ?_ ?_)
      | (with_reducible refine LeO.bind ?_ (fun _ => ?_))
      | exact cal_Civil.mono _ _
      | exact cal_Length.mono _ _ _
      | exact cal_Number.mono _ _ _ _
      | exact LeO.none _
      | refine LeO.ite ?_ ?_
      | refine LeO.bind ?_ (fun _ => ?_)
set_option maxHeartbeats 8000000 in
set_option maxRecDepth 100000 in
theorem basis_leaps.calls (k : Nat) (a0 : Int) (r1 : Int) (r2 : Int) (w : World) (h : basis_leaps.f k a0 = some (r1, r2)) :
    Calls Try.prog 49 #[.int .i64 a0] w fun e w' => e = .returned (.tuple #[.int .i64 r1, .int .i64 r2]) ∧ Drawn0 w w' := by
  have H : ((cal_Civil.f k a0).bind fun bt122 => ((cal_Number.f k bt122.1 1 1).bind fun bt126 => ((cal_Length.f k bt122.1 2).bind fun bt128 => (if bt128.1 = 29 then (some (wrap64 ((wrap64 ((wrap64 (366 * (wrap64 ((wrap64 ((wrap64 (Int.tdiv (wrap64 (bt122.1 - 1)) 4)) - (wrap64 (Int.tdiv (wrap64 (bt122.1 - 1)) 100)))) + (wrap64 (Int.tdiv (wrap64 (bt122.1 - 1)) 400)))))) + a0)) - bt126.1), bt122.1)) else (some (wrap64 (366 * (wrap64 ((wrap64 ((wrap64 (Int.tdiv (wrap64 (bt122.1 - 1)) 4)) - (wrap64 (Int.tdiv (wrap64 (bt122.1 - 1)) 100)))) + (wrap64 (Int.tdiv (wrap64 (bt122.1 - 1)) 400))))), bt122.1)))))) = some (r1, r2) := h
  clear h
  replace H := Option.bind_eq_some_iff.mp H
  obtain ⟨⟨t122, t123, t124, t125⟩, A20, H⟩ := H
  replace H : ((cal_Number.f k t122 1 1).bind fun bt126 => ((cal_Length.f k t122 2).bind fun bt128 => (if bt128.1 = 29 then (some (wrap64 ((wrap64 ((wrap64 (366 * (wrap64 ((wrap64 ((wrap64 (Int.tdiv (wrap64 (t122 - 1)) 4)) - (wrap64 (Int.tdiv (wrap64 (t122 - 1)) 100)))) + (wrap64 (Int.tdiv (wrap64 (t122 - 1)) 400)))))) + a0)) - bt126.1), t122)) else (some (wrap64 (366 * (wrap64 ((wrap64 ((wrap64 (Int.tdiv (wrap64 (t122 - 1)) 4)) - (wrap64 (Int.tdiv (wrap64 (t122 - 1)) 100)))) + (wrap64 (Int.tdiv (wrap64 (t122 - 1)) 400))))), t122))))) = some (r1, r2) := H
  have A2 := Aside0.mk A20
  clear A20
  replace H := Option.bind_eq_some_iff.mp H
  obtain ⟨⟨t126, t127⟩, A30, H⟩ := H
  replace H : ((cal_Length.f k t122 2).bind fun bt128 => (if bt128.1 = 29 then (some (wrap64 ((wrap64 ((wrap64 (366 * (wrap64 ((wrap64 ((wrap64 (Int.tdiv (wrap64 (t122 - 1)) 4)) - (wrap64 (Int.tdiv (wrap64 (t122 - 1)) 100)))) + (wrap64 (Int.tdiv (wrap64 (t122 - 1)) 400)))))) + a0)) - t126), t122)) else (some (wrap64 (366 * (wrap64 ((wrap64 ((wrap64 (Int.tdiv (wrap64 (t122 - 1)) 4)) - (wrap64 (Int.tdiv (wrap64 (t122 - 1)) 100)))) + (wrap64 (Int.tdiv (wrap64 (t122 - 1)) 400))))), t122)))) = some (r1, r2) := H
  have A3 := Aside0.mk A30
  clear A30
  replace H := Option.bind_eq_some_iff.mp H
  obtain ⟨⟨t128, t129⟩, A40, H⟩ := H
  replace H : (if t128 = 29 then (some (wrap64 ((wrap64 ((wrap64 (366 * (wrap64 ((wrap64 ((wrap64 (Int.tdiv (wrap64 (t122 - 1)) 4)) - (wrap64 (Int.tdiv (wrap64 (t122 - 1)) 100)))) + (wrap64 (Int.tdiv (wrap64 (t122 - 1)) 400)))))) + a0)) - t126), t122)) else (some (wrap64 (366 * (wrap64 ((wrap64 ((wrap64 (Int.tdiv (wrap64 (t122 - 1)) 4)) - (wrap64 (Int.tdiv (wrap64 (t122 - 1)) 100)))) + (wrap64 (Int.tdiv (wrap64 (t122 - 1)) 400))))), t122))) = some (r1, r2) := H
  have A4 := Aside0.mk A40
  clear A40
  by_cases c5 : t128 = 29
  · rw [if_pos c5] at H
    have c5b0 : (t128 == 29) = true := beq_iff_eq.mpr c5
    have c5b1 : (t128 != 29) = false := bne_eq_false_iff_eq.mpr c5
    clear c5
    simp only [Option.some.injEq, Prod.mk.injEq] at H
    obtain ⟨rfl, rfl⟩ := H
    go_enter Try.func49, Try.ntmps49
    go_wp2_with (first | ((with_reducible refine gate_callee (f := 14) rfl ?_); refine goesL_ (some 14) rfl rfl Try.func14 (by kernel_rfl) rfl #[.int .i64 a0] rfl (by (try simp only [List.map_toArray, List.map_cons, List.map_nil]); first | done | rfl | (simp only [List.length_drop, List.length_take]; rfl)) ?_; (with_reducible refine (cal_Civil.calls k a0 t122 t123 t124 t125 _ A2.out).mono ?_); rintro e w' ⟨rfl, ⟨nd, rfl⟩⟩; refine ⟨_, rfl, ?_⟩) | ((with_reducible refine gate_callee (f := 19) rfl ?_); refine goesL_ (some 21) rfl rfl Try.func19 (by kernel_rfl) rfl #[.int .i64 t122, .int .i64 1, .int .i64 1] rfl (by (try simp only [List.map_toArray, List.map_cons, List.map_nil]); first | done | rfl | (simp only [List.length_drop, List.length_take]; rfl)) ?_; (with_reducible refine (cal_Number.calls k t122 1 1 t126 t127 _ A3.out).mono ?_); rintro e w' ⟨rfl, ⟨nd, rfl⟩⟩; refine ⟨_, rfl, ?_⟩) | ((with_reducible refine gate_callee (f := 21) rfl ?_); refine goesL_ (some 26) rfl rfl Try.func21 (by kernel_rfl) rfl #[.int .i64 t122, .int .i64 2] rfl (by (try simp only [List.map_toArray, List.map_cons, List.map_nil]); first | done | rfl | (simp only [List.length_drop, List.length_take]; rfl)) ?_; (with_reducible refine (cal_Length.calls k t122 2 t128 t129 _ A4.out).mono ?_); rintro e w' ⟨rfl, ⟨nd, rfl⟩⟩; refine ⟨_, rfl, ?_⟩))
    go_ret2
    exact ⟨by first | rfl | (simp; done) | (simp [*]; done), by repeat (first | exact Drawn0.refl _ | apply Drawn0.step)⟩
  · rw [if_neg c5] at H
    have c5b0 : (t128 == 29) = false := beq_eq_false_iff_ne.mpr c5
    have c5b1 : (t128 != 29) = true := bne_iff_ne.mpr c5
    simp only [Option.some.injEq, Prod.mk.injEq] at H
    obtain ⟨rfl, rfl⟩ := H
    go_enter Try.func49, Try.ntmps49
    go_wp2_with (first | ((with_reducible refine gate_callee (f := 14) rfl ?_); refine goesL_ (some 14) rfl rfl Try.func14 (by kernel_rfl) rfl #[.int .i64 a0] rfl (by (try simp only [List.map_toArray, List.map_cons, List.map_nil]); first | done | rfl | (simp only [List.length_drop, List.length_take]; rfl)) ?_; (with_reducible refine (cal_Civil.calls k a0 t122 t123 t124 t125 _ A2.out).mono ?_); rintro e w' ⟨rfl, ⟨nd, rfl⟩⟩; refine ⟨_, rfl, ?_⟩) | ((with_reducible refine gate_callee (f := 19) rfl ?_); refine goesL_ (some 21) rfl rfl Try.func19 (by kernel_rfl) rfl #[.int .i64 t122, .int .i64 1, .int .i64 1] rfl (by (try simp only [List.map_toArray, List.map_cons, List.map_nil]); first | done | rfl | (simp only [List.length_drop, List.length_take]; rfl)) ?_; (with_reducible refine (cal_Number.calls k t122 1 1 t126 t127 _ A3.out).mono ?_); rintro e w' ⟨rfl, ⟨nd, rfl⟩⟩; refine ⟨_, rfl, ?_⟩) | ((with_reducible refine gate_callee (f := 21) rfl ?_); refine goesL_ (some 26) rfl rfl Try.func21 (by kernel_rfl) rfl #[.int .i64 t122, .int .i64 2] rfl (by (try simp only [List.map_toArray, List.map_cons, List.map_nil]); first | done | rfl | (simp only [List.length_drop, List.length_take]; rfl)) ?_; (with_reducible refine (cal_Length.calls k t122 2 t128 t129 _ A4.out).mono ?_); rintro e w' ⟨rfl, ⟨nd, rfl⟩⟩; refine ⟨_, rfl, ?_⟩))
    go_ret2
    exact ⟨by first | rfl | (simp; done) | (simp [*]; done), by repeat (first | exact Drawn0.refl _ | apply Drawn0.step)⟩

/-! ### basis_Part: function 32 -/
def basis_Part.f (k : Nat) (a0 : Int) (a1 : Int) (a2 : Int) : Option (Int × Int × Int) := (basis_check.f k a0 a1 a2).bind fun t130 => (if t130 = 0 then (if a0 = 0 then (some (wrap64 (a2 - a1), 360, 0)) else (if a0 = 1 then (some (wrap64 (a2 - a1), 365, 0)) else (if a0 = 2 then ((basis_thirty.f k a1 a2).bind fun t131 => (some (t131, 360, 0))) else ((basis_leaps.f k a1).bind fun bt132 => ((basis_leaps.f k a2).bind fun bt134 => (some (wrap64 ((wrap64 (365 * (wrap64 (bt134.1 - bt132.1)))) + (wrap64 (366 * (wrap64 ((wrap64 (a2 - a1)) - (wrap64 (bt134.1 - bt132.1))))))), 133590, 0))))))) else (some (0, 0, t130)))
theorem basis_Part.mono : ∀ a0 a1 a2 k, LeO (basis_Part.f k a0 a1 a2) (basis_Part.f (k + 1) a0 a1 a2) := by
  intro a0 a1 a2 k
  unfold basis_Part.f
  repeat' first
      | (with_reducible exact basis_check.mono _ _ _ _)
      | (with_reducible exact basis_leaps.mono _ _)
      | (with_reducible exact basis_thirty.mono _ _ _)
      | (with_reducible exact LeO.refl _)
      | (with_reducible exact LeO.none _)
      | (with_reducible refine LeO.ite ?_ ?_)
      | (with_reducible refine LeO.bind ?_ (fun _ => ?_))
      | exact basis_check.mono _ _ _ _
      | exact basis_leaps.mono _ _
      | exact basis_thirty.mono _ _ _
      | exact LeO.none _
      | refine LeO.ite ?_ ?_
      | refine LeO.bind ?_ (fun _ => ?_)
set_option maxHeartbeats 8000000 in
set_option maxRecDepth 100000 in
theorem basis_Part.calls (k : Nat) (a0 : Int) (a1 : Int) (a2 : Int) (r1 : Int) (r2 : Int) (r3 : Int) (w : World) (h : basis_Part.f k a0 a1 a2 = some (r1, r2, r3)) :
    Calls Try.prog 32 #[.int .i64 a0, .int .i64 a1, .int .i64 a2] w fun e w' => e = .returned (.tuple #[.int .i64 r1, .int .i64 r2, .int .i64 r3]) ∧ Below w.heap.size w w' := by
  have HB := Aside0.mk (Below.refl w.heap.size w)
  have H : ((basis_check.f k a0 a1 a2).bind fun t130 => (if t130 = 0 then (if a0 = 0 then (some (wrap64 (a2 - a1), 360, 0)) else (if a0 = 1 then (some (wrap64 (a2 - a1), 365, 0)) else (if a0 = 2 then ((basis_thirty.f k a1 a2).bind fun t131 => (some (t131, 360, 0))) else ((basis_leaps.f k a1).bind fun bt132 => ((basis_leaps.f k a2).bind fun bt134 => (some (wrap64 ((wrap64 (365 * (wrap64 (bt134.1 - bt132.1)))) + (wrap64 (366 * (wrap64 ((wrap64 (a2 - a1)) - (wrap64 (bt134.1 - bt132.1))))))), 133590, 0))))))) else (some (0, 0, t130)))) = some (r1, r2, r3) := h
  clear h
  replace H := Option.bind_eq_some_iff.mp H
  obtain ⟨t130, A40, H⟩ := H
  replace H : (if t130 = 0 then (if a0 = 0 then (some (wrap64 (a2 - a1), 360, 0)) else (if a0 = 1 then (some (wrap64 (a2 - a1), 365, 0)) else (if a0 = 2 then ((basis_thirty.f k a1 a2).bind fun t131 => (some (t131, 360, 0))) else ((basis_leaps.f k a1).bind fun bt132 => ((basis_leaps.f k a2).bind fun bt134 => (some (wrap64 ((wrap64 (365 * (wrap64 (bt134.1 - bt132.1)))) + (wrap64 (366 * (wrap64 ((wrap64 (a2 - a1)) - (wrap64 (bt134.1 - bt132.1))))))), 133590, 0))))))) else (some (0, 0, t130))) = some (r1, r2, r3) := H
  have A4 := Aside0.mk A40
  clear A40
  by_cases c5 : t130 = 0
  · rw [if_pos c5] at H
    have c5b0 : (t130 == 0) = true := beq_iff_eq.mpr c5
    have c5b1 : (t130 != 0) = false := bne_eq_false_iff_eq.mpr c5
    clear c5
    by_cases c6 : a0 = 0
    · rw [if_pos c6] at H
      have c6b0 : (a0 == 0) = true := beq_iff_eq.mpr c6
      have c6b1 : (a0 != 0) = false := bne_eq_false_iff_eq.mpr c6
      clear c6
      simp only [Option.some.injEq, Prod.mk.injEq] at H
      obtain ⟨rfl, rfl, rfl⟩ := H
      go_enter Try.func32, Try.ntmps32
      go_wp2_with (first | ((with_reducible refine gate_callee (f := 47) rfl ?_); refine goesL_ (some 18) rfl rfl Try.func47 (by kernel_rfl) rfl #[.int .i64 a0, .int .i64 a1, .int .i64 a2] rfl (by (try simp only [List.map_toArray, List.map_cons, List.map_nil]); first | done | rfl | (simp only [List.length_drop, List.length_take]; rfl)) ?_; (with_reducible refine (basis_check.calls k a0 a1 a2 t130 _ A4.out).mono ?_); rintro e w' ⟨rfl, ⟨nd, rfl⟩⟩; refine ⟨_, rfl, ?_⟩))
      go_ret3
      exact ⟨by first | rfl | (simp [errW_none, errW_some] <;> rfl) | (simp [*, errW_none, errW_some] <;> rfl), by repeat (first | (with_reducible first | exact HB.out | apply below_alloc | apply pw_below_drewN | apply below_drew1) | exact HB.out)⟩
    · rw [if_neg c6] at H
      have c6b0 : (a0 == 0) = false := beq_eq_false_iff_ne.mpr c6
      have c6b1 : (a0 != 0) = true := bne_iff_ne.mpr c6
      by_cases c7 : a0 = 1
      · rw [if_pos c7] at H
        have c7b0 : (a0 == 1) = true := beq_iff_eq.mpr c7
        have c7b1 : (a0 != 1) = false := bne_eq_false_iff_eq.mpr c7
        clear c7
        simp only [Option.some.injEq, Prod.mk.injEq] at H
        obtain ⟨rfl, rfl, rfl⟩ := H
        go_enter Try.func32, Try.ntmps32
        go_wp2_with (first | ((with_reducible refine gate_callee (f := 47) rfl ?_); refine goesL_ (some 18) rfl rfl Try.func47 (by kernel_rfl) rfl #[.int .i64 a0, .int .i64 a1, .int .i64 a2] rfl (by (try simp only [List.map_toArray, List.map_cons, List.map_nil]); first | done | rfl | (simp only [List.length_drop, List.length_take]; rfl)) ?_; (with_reducible refine (basis_check.calls k a0 a1 a2 t130 _ A4.out).mono ?_); rintro e w' ⟨rfl, ⟨nd, rfl⟩⟩; refine ⟨_, rfl, ?_⟩))
        go_ret3
        exact ⟨by first | rfl | (simp [errW_none, errW_some] <;> rfl) | (simp [*, errW_none, errW_some] <;> rfl), by repeat (first | (with_reducible first | exact HB.out | apply below_alloc | apply pw_below_drewN | apply below_drew1) | exact HB.out)⟩
      · rw [if_neg c7] at H
        have c7b0 : (a0 == 1) = false := beq_eq_false_iff_ne.mpr c7
        have c7b1 : (a0 != 1) = true := bne_iff_ne.mpr c7
        by_cases c8 : a0 = 2
        · rw [if_pos c8] at H
          have c8b0 : (a0 == 2) = true := beq_iff_eq.mpr c8
          have c8b1 : (a0 != 2) = false := bne_eq_false_iff_eq.mpr c8
          clear c8
          replace H := Option.bind_eq_some_iff.mp H
          obtain ⟨t131, A90, H⟩ := H
          replace H : (some (t131, 360, 0)) = some (r1, r2, r3) := H
          have A9 := Aside0.mk A90
          clear A90
          simp only [Option.some.injEq, Prod.mk.injEq] at H
          obtain ⟨rfl, rfl, rfl⟩ := H
          go_enter Try.func32, Try.ntmps32
          go_wp2_with (first | ((with_reducible refine gate_callee (f := 47) rfl ?_); refine goesL_ (some 18) rfl rfl Try.func47 (by kernel_rfl) rfl #[.int .i64 a0, .int .i64 a1, .int .i64 a2] rfl (by (try simp only [List.map_toArray, List.map_cons, List.map_nil]); first | done | rfl | (simp only [List.length_drop, List.length_take]; rfl)) ?_; (with_reducible refine (basis_check.calls k a0 a1 a2 t130 _ A4.out).mono ?_); rintro e w' ⟨rfl, ⟨nd, rfl⟩⟩; refine ⟨_, rfl, ?_⟩) | ((with_reducible refine gate_callee (f := 48) rfl ?_); refine goesL_ (some 37) rfl rfl Try.func48 (by kernel_rfl) rfl #[.int .i64 a1, .int .i64 a2] rfl (by (try simp only [List.map_toArray, List.map_cons, List.map_nil]); first | done | rfl | (simp only [List.length_drop, List.length_take]; rfl)) ?_; (with_reducible refine (basis_thirty.calls k a1 a2 t131 _ A9.out).mono ?_); rintro e w10 ⟨rfl, hb⟩; refine ⟨_, rfl, ?_⟩; have n0_ := Aside0.mk (below_step (by repeat (first | (with_reducible first | exact HB.out | apply below_alloc | apply pw_below_drewN | apply below_drew1) | exact HB.out)) hb); clear HB; have HB := n0_; clear n0_; (try clear hb); (try clear hb2); (try clear hk); (try clear hi)))
          go_ret3
          exact ⟨by first | rfl | (simp [errW_none, errW_some] <;> rfl) | (simp [*, errW_none, errW_some] <;> rfl), by repeat (first | (with_reducible first | exact HB.out | apply below_alloc | apply pw_below_drewN | apply below_drew1) | exact HB.out)⟩
        · rw [if_neg c8] at H
          have c8b0 : (a0 == 2) = false := beq_eq_false_iff_ne.mpr c8
          have c8b1 : (a0 != 2) = true := bne_iff_ne.mpr c8
          replace H := Option.bind_eq_some_iff.mp H
          obtain ⟨⟨t132, t133⟩, A110, H⟩ := H
          replace H : ((basis_leaps.f k a2).bind fun bt134 => (some (wrap64 ((wrap64 (365 * (wrap64 (bt134.1 - t132)))) + (wrap64 (366 * (wrap64 ((wrap64 (a2 - a1)) - (wrap64 (bt134.1 - t132))))))), 133590, 0))) = some (r1, r2, r3) := H
          have A11 := Aside0.mk A110
          clear A110
          replace H := Option.bind_eq_some_iff.mp H
          obtain ⟨⟨t134, t135⟩, A120, H⟩ := H
          replace H : (some (wrap64 ((wrap64 (365 * (wrap64 (t134 - t132)))) + (wrap64 (366 * (wrap64 ((wrap64 (a2 - a1)) - (wrap64 (t134 - t132))))))), 133590, 0)) = some (r1, r2, r3) := H
          have A12 := Aside0.mk A120
          clear A120
          simp only [Option.some.injEq, Prod.mk.injEq] at H
          obtain ⟨rfl, rfl, rfl⟩ := H
          go_enter Try.func32, Try.ntmps32
          go_wp2_with (first | ((with_reducible refine gate_callee (f := 47) rfl ?_); refine goesL_ (some 18) rfl rfl Try.func47 (by kernel_rfl) rfl #[.int .i64 a0, .int .i64 a1, .int .i64 a2] rfl (by (try simp only [List.map_toArray, List.map_cons, List.map_nil]); first | done | rfl | (simp only [List.length_drop, List.length_take]; rfl)) ?_; (with_reducible refine (basis_check.calls k a0 a1 a2 t130 _ A4.out).mono ?_); rintro e w' ⟨rfl, ⟨nd, rfl⟩⟩; refine ⟨_, rfl, ?_⟩) | ((with_reducible refine gate_callee (f := 49) rfl ?_); refine goesL_ (some 40) rfl rfl Try.func49 (by kernel_rfl) rfl #[.int .i64 a1] rfl (by (try simp only [List.map_toArray, List.map_cons, List.map_nil]); first | done | rfl | (simp only [List.length_drop, List.length_take]; rfl)) ?_; (with_reducible refine (basis_leaps.calls k a1 t132 t133 _ A11.out).mono ?_); rintro e w' ⟨rfl, ⟨nd, rfl⟩⟩; refine ⟨_, rfl, ?_⟩) | ((with_reducible refine gate_callee (f := 49) rfl ?_); refine goesL_ (some 45) rfl rfl Try.func49 (by kernel_rfl) rfl #[.int .i64 a2] rfl (by (try simp only [List.map_toArray, List.map_cons, List.map_nil]); first | done | rfl | (simp only [List.length_drop, List.length_take]; rfl)) ?_; (with_reducible refine (basis_leaps.calls k a2 t134 t135 _ A12.out).mono ?_); rintro e w' ⟨rfl, ⟨nd, rfl⟩⟩; refine ⟨_, rfl, ?_⟩))
          go_ret3
          exact ⟨by first | rfl | (simp [errW_none, errW_some] <;> rfl) | (simp [*, errW_none, errW_some] <;> rfl), by repeat (first | (with_reducible first | exact HB.out | apply below_alloc | apply pw_below_drewN | apply below_drew1) | exact HB.out)⟩
  · rw [if_neg c5] at H
    have c5b0 : (t130 == 0) = false := beq_eq_false_iff_ne.mpr c5
    have c5b1 : (t130 != 0) = true := bne_iff_ne.mpr c5
    simp only [Option.some.injEq, Prod.mk.injEq] at H
    obtain ⟨rfl, rfl, rfl⟩ := H
    go_enter Try.func32, Try.ntmps32
    go_wp2_with (first | ((with_reducible refine gate_callee (f := 47) rfl ?_); refine goesL_ (some 18) rfl rfl Try.func47 (by kernel_rfl) rfl #[.int .i64 a0, .int .i64 a1, .int .i64 a2] rfl (by (try simp only [List.map_toArray, List.map_cons, List.map_nil]); first | done | rfl | (simp only [List.length_drop, List.length_take]; rfl)) ?_; (with_reducible refine (basis_check.calls k a0 a1 a2 t130 _ A4.out).mono ?_); rintro e w' ⟨rfl, ⟨nd, rfl⟩⟩; refine ⟨_, rfl, ?_⟩))
    go_ret3
    exact ⟨by first | rfl | (simp [errW_none, errW_some] <;> rfl) | (simp [*, errW_none, errW_some] <;> rfl), by repeat (first | (with_reducible first | exact HB.out | apply below_alloc | apply pw_below_drewN | apply below_drew1) | exact HB.out)⟩

/-! ### passbooklaw04_awake: function 30 -/
def passbooklaw04_awake.f (k : Nat)  : Option (Bool) := (cal_Number.f k 2024 1 1).bind fun bt136 => ((cal_Number.f k 2024 2 1).bind fun bt138 => ((basis_Part.f k 0 bt136.1 bt138.1).bind fun bt140 => ((basis_Part.f k 2 bt136.1 bt138.1).bind fun bt143 => (if bt136.2 = 0 then (if bt138.2 = 0 then (if bt140.2.2 = 0 then (if bt143.2.2 = 0 then (if bt140.1 = 31 then (if bt140.2.1 = 360 then (if bt143.1 = 30 then (some (bt143.2.1 == 360)) else (some false)) else (some false)) else (some false)) else (some false)) else (some false)) else (some false)) else (some false)))))
theorem passbooklaw04_awake.mono : ∀ k, LeO (passbooklaw04_awake.f k ) (passbooklaw04_awake.f (k + 1) ) := by
  intro  k
  unfold passbooklaw04_awake.f
  repeat' first
      | (with_reducible exact basis_Part.mono _ _ _ _)
      | (with_reducible exact cal_Number.mono _ _ _ _)
      | (with_reducible exact LeO.refl _)
      | (with_reducible exact LeO.none _)
      | (with_reducible refine LeO.ite ?_ ?_)
      | (with_reducible refine LeO.bind ?_ (fun _ => ?_))
      | exact basis_Part.mono _ _ _ _
      | exact cal_Number.mono _ _ _ _
      | exact LeO.none _
      | refine LeO.ite ?_ ?_
      | refine LeO.bind ?_ (fun _ => ?_)
set_option maxHeartbeats 8000000 in
set_option maxRecDepth 100000 in
theorem passbooklaw04_awake.calls (k : Nat)  (r : Bool) (w : World) (h : passbooklaw04_awake.f k  = some r) :
    Calls Try.prog 30 #[] w fun e w' => e = .returned (.bool r) ∧ Below w.heap.size w w' := by
  have HB := Aside0.mk (Below.refl w.heap.size w)
  have H : ((cal_Number.f k 2024 1 1).bind fun bt136 => ((cal_Number.f k 2024 2 1).bind fun bt138 => ((basis_Part.f k 0 bt136.1 bt138.1).bind fun bt140 => ((basis_Part.f k 2 bt136.1 bt138.1).bind fun bt143 => (if bt136.2 = 0 then (if bt138.2 = 0 then (if bt140.2.2 = 0 then (if bt143.2.2 = 0 then (if bt140.1 = 31 then (if bt140.2.1 = 360 then (if bt143.1 = 30 then (some (bt143.2.1 == 360)) else (some false)) else (some false)) else (some false)) else (some false)) else (some false)) else (some false)) else (some false)))))) = some r := h
  clear h
  replace H := Option.bind_eq_some_iff.mp H
  obtain ⟨⟨t136, t137⟩, A10, H⟩ := H
  replace H : ((cal_Number.f k 2024 2 1).bind fun bt138 => ((basis_Part.f k 0 t136 bt138.1).bind fun bt140 => ((basis_Part.f k 2 t136 bt138.1).bind fun bt143 => (if t137 = 0 then (if bt138.2 = 0 then (if bt140.2.2 = 0 then (if bt143.2.2 = 0 then (if bt140.1 = 31 then (if bt140.2.1 = 360 then (if bt143.1 = 30 then (some (bt143.2.1 == 360)) else (some false)) else (some false)) else (some false)) else (some false)) else (some false)) else (some false)) else (some false))))) = some r := H
  have A1 := Aside0.mk A10
  clear A10
  replace H := Option.bind_eq_some_iff.mp H
  obtain ⟨⟨t138, t139⟩, A20, H⟩ := H
  replace H : ((basis_Part.f k 0 t136 t138).bind fun bt140 => ((basis_Part.f k 2 t136 t138).bind fun bt143 => (if t137 = 0 then (if t139 = 0 then (if bt140.2.2 = 0 then (if bt143.2.2 = 0 then (if bt140.1 = 31 then (if bt140.2.1 = 360 then (if bt143.1 = 30 then (some (bt143.2.1 == 360)) else (some false)) else (some false)) else (some false)) else (some false)) else (some false)) else (some false)) else (some false)))) = some r := H
  have A2 := Aside0.mk A20
  clear A20
  replace H := Option.bind_eq_some_iff.mp H
  obtain ⟨⟨t140, t141, t142⟩, A30, H⟩ := H
  replace H : ((basis_Part.f k 2 t136 t138).bind fun bt143 => (if t137 = 0 then (if t139 = 0 then (if t142 = 0 then (if bt143.2.2 = 0 then (if t140 = 31 then (if t141 = 360 then (if bt143.1 = 30 then (some (bt143.2.1 == 360)) else (some false)) else (some false)) else (some false)) else (some false)) else (some false)) else (some false)) else (some false))) = some r := H
  have A3 := Aside0.mk A30
  clear A30
  replace H := Option.bind_eq_some_iff.mp H
  obtain ⟨⟨t143, t144, t145⟩, A40, H⟩ := H
  replace H : (if t137 = 0 then (if t139 = 0 then (if t142 = 0 then (if t145 = 0 then (if t140 = 31 then (if t141 = 360 then (if t143 = 30 then (some (t144 == 360)) else (some false)) else (some false)) else (some false)) else (some false)) else (some false)) else (some false)) else (some false)) = some r := H
  have A4 := Aside0.mk A40
  clear A40
  by_cases c5 : t137 = 0
  · rw [if_pos c5] at H
    have c5b0 : (t137 == 0) = true := beq_iff_eq.mpr c5
    have c5b1 : (t137 != 0) = false := bne_eq_false_iff_eq.mpr c5
    clear c5
    by_cases c6 : t139 = 0
    · rw [if_pos c6] at H
      have c6b0 : (t139 == 0) = true := beq_iff_eq.mpr c6
      have c6b1 : (t139 != 0) = false := bne_eq_false_iff_eq.mpr c6
      clear c6
      by_cases c7 : t142 = 0
      · rw [if_pos c7] at H
        have c7b0 : (t142 == 0) = true := beq_iff_eq.mpr c7
        have c7b1 : (t142 != 0) = false := bne_eq_false_iff_eq.mpr c7
        clear c7
        by_cases c8 : t145 = 0
        · rw [if_pos c8] at H
          have c8b0 : (t145 == 0) = true := beq_iff_eq.mpr c8
          have c8b1 : (t145 != 0) = false := bne_eq_false_iff_eq.mpr c8
          clear c8
          by_cases c9 : t140 = 31
          · rw [if_pos c9] at H
            have c9b0 : (t140 == 31) = true := beq_iff_eq.mpr c9
            have c9b1 : (t140 != 31) = false := bne_eq_false_iff_eq.mpr c9
            clear c9
            by_cases c10 : t141 = 360
            · rw [if_pos c10] at H
              have c10b0 : (t141 == 360) = true := beq_iff_eq.mpr c10
              have c10b1 : (t141 != 360) = false := bne_eq_false_iff_eq.mpr c10
              clear c10
              by_cases c11 : t143 = 30
              · rw [if_pos c11] at H
                have c11b0 : (t143 == 30) = true := beq_iff_eq.mpr c11
                have c11b1 : (t143 != 30) = false := bne_eq_false_iff_eq.mpr c11
                clear c11
                obtain rfl := Option.some.inj H
                go_enter Try.func30, Try.ntmps30
                go_wp2_with (first | ((with_reducible refine gate_callee (f := 19) rfl ?_); refine goesL_ (some 12) rfl rfl Try.func19 (by kernel_rfl) rfl #[.int .i64 2024, .int .i64 1, .int .i64 1] rfl (by (try simp only [List.map_toArray, List.map_cons, List.map_nil]); first | done | rfl | (simp only [List.length_drop, List.length_take]; rfl)) ?_; (with_reducible refine (cal_Number.calls k 2024 1 1 t136 t137 _ A1.out).mono ?_); rintro e w' ⟨rfl, ⟨nd, rfl⟩⟩; refine ⟨_, rfl, ?_⟩) | ((with_reducible refine gate_callee (f := 19) rfl ?_); refine goesL_ (some 16) rfl rfl Try.func19 (by kernel_rfl) rfl #[.int .i64 2024, .int .i64 2, .int .i64 1] rfl (by (try simp only [List.map_toArray, List.map_cons, List.map_nil]); first | done | rfl | (simp only [List.length_drop, List.length_take]; rfl)) ?_; (with_reducible refine (cal_Number.calls k 2024 2 1 t138 t139 _ A2.out).mono ?_); rintro e w' ⟨rfl, ⟨nd, rfl⟩⟩; refine ⟨_, rfl, ?_⟩) | ((with_reducible refine gate_callee (f := 32) rfl ?_); refine goesL_ (some 22) rfl rfl Try.func32 (by kernel_rfl) rfl #[.int .i64 0, .int .i64 t136, .int .i64 t138] rfl (by (try simp only [List.map_toArray, List.map_cons, List.map_nil]); first | done | rfl | (simp only [List.length_drop, List.length_take]; rfl)) ?_; (with_reducible refine (basis_Part.calls k 0 t136 t138 t140 t141 t142 _ A3.out).mono ?_); rintro e w12 ⟨rfl, hb⟩; refine ⟨_, rfl, ?_⟩; have n0_ := Aside0.mk (below_step (by repeat (first | (with_reducible first | exact HB.out | apply below_alloc | apply pw_below_drewN | apply below_drew1) | exact HB.out)) hb); clear HB; have HB := n0_; clear n0_; (try clear hb); (try clear hb2); (try clear hk); (try clear hi)) | ((with_reducible refine gate_callee (f := 32) rfl ?_); refine goesL_ (some 29) rfl rfl Try.func32 (by kernel_rfl) rfl #[.int .i64 2, .int .i64 t136, .int .i64 t138] rfl (by (try simp only [List.map_toArray, List.map_cons, List.map_nil]); first | done | rfl | (simp only [List.length_drop, List.length_take]; rfl)) ?_; (with_reducible refine (basis_Part.calls k 2 t136 t138 t143 t144 t145 _ A4.out).mono ?_); rintro e w13 ⟨rfl, hb⟩; refine ⟨_, rfl, ?_⟩; have n0_ := Aside0.mk (below_step (by repeat (first | (with_reducible first | exact HB.out | apply below_alloc | apply pw_below_drewN | apply below_drew1) | exact HB.out)) hb); clear HB; have HB := n0_; clear n0_; (try clear hb); (try clear hb2); (try clear hk); (try clear hi)))
                go_ret
                exact ⟨by first | rfl | (simp [errW_none, errW_some] <;> rfl) | (simp [*, errW_none, errW_some] <;> rfl), by repeat (first | (with_reducible first | exact HB.out | apply below_alloc | apply pw_below_drewN | apply below_drew1) | exact HB.out)⟩
              · rw [if_neg c11] at H
                have c11b0 : (t143 == 30) = false := beq_eq_false_iff_ne.mpr c11
                have c11b1 : (t143 != 30) = true := bne_iff_ne.mpr c11
                obtain rfl := Option.some.inj H
                go_enter Try.func30, Try.ntmps30
                go_wp2_with (first | ((with_reducible refine gate_callee (f := 19) rfl ?_); refine goesL_ (some 12) rfl rfl Try.func19 (by kernel_rfl) rfl #[.int .i64 2024, .int .i64 1, .int .i64 1] rfl (by (try simp only [List.map_toArray, List.map_cons, List.map_nil]); first | done | rfl | (simp only [List.length_drop, List.length_take]; rfl)) ?_; (with_reducible refine (cal_Number.calls k 2024 1 1 t136 t137 _ A1.out).mono ?_); rintro e w' ⟨rfl, ⟨nd, rfl⟩⟩; refine ⟨_, rfl, ?_⟩) | ((with_reducible refine gate_callee (f := 19) rfl ?_); refine goesL_ (some 16) rfl rfl Try.func19 (by kernel_rfl) rfl #[.int .i64 2024, .int .i64 2, .int .i64 1] rfl (by (try simp only [List.map_toArray, List.map_cons, List.map_nil]); first | done | rfl | (simp only [List.length_drop, List.length_take]; rfl)) ?_; (with_reducible refine (cal_Number.calls k 2024 2 1 t138 t139 _ A2.out).mono ?_); rintro e w' ⟨rfl, ⟨nd, rfl⟩⟩; refine ⟨_, rfl, ?_⟩) | ((with_reducible refine gate_callee (f := 32) rfl ?_); refine goesL_ (some 22) rfl rfl Try.func32 (by kernel_rfl) rfl #[.int .i64 0, .int .i64 t136, .int .i64 t138] rfl (by (try simp only [List.map_toArray, List.map_cons, List.map_nil]); first | done | rfl | (simp only [List.length_drop, List.length_take]; rfl)) ?_; (with_reducible refine (basis_Part.calls k 0 t136 t138 t140 t141 t142 _ A3.out).mono ?_); rintro e w14 ⟨rfl, hb⟩; refine ⟨_, rfl, ?_⟩; have n0_ := Aside0.mk (below_step (by repeat (first | (with_reducible first | exact HB.out | apply below_alloc | apply pw_below_drewN | apply below_drew1) | exact HB.out)) hb); clear HB; have HB := n0_; clear n0_; (try clear hb); (try clear hb2); (try clear hk); (try clear hi)) | ((with_reducible refine gate_callee (f := 32) rfl ?_); refine goesL_ (some 29) rfl rfl Try.func32 (by kernel_rfl) rfl #[.int .i64 2, .int .i64 t136, .int .i64 t138] rfl (by (try simp only [List.map_toArray, List.map_cons, List.map_nil]); first | done | rfl | (simp only [List.length_drop, List.length_take]; rfl)) ?_; (with_reducible refine (basis_Part.calls k 2 t136 t138 t143 t144 t145 _ A4.out).mono ?_); rintro e w15 ⟨rfl, hb⟩; refine ⟨_, rfl, ?_⟩; have n0_ := Aside0.mk (below_step (by repeat (first | (with_reducible first | exact HB.out | apply below_alloc | apply pw_below_drewN | apply below_drew1) | exact HB.out)) hb); clear HB; have HB := n0_; clear n0_; (try clear hb); (try clear hb2); (try clear hk); (try clear hi)))
                go_ret
                exact ⟨by first | rfl | (simp [errW_none, errW_some] <;> rfl) | (simp [*, errW_none, errW_some] <;> rfl), by repeat (first | (with_reducible first | exact HB.out | apply below_alloc | apply pw_below_drewN | apply below_drew1) | exact HB.out)⟩
            · rw [if_neg c10] at H
              have c10b0 : (t141 == 360) = false := beq_eq_false_iff_ne.mpr c10
              have c10b1 : (t141 != 360) = true := bne_iff_ne.mpr c10
              obtain rfl := Option.some.inj H
              go_enter Try.func30, Try.ntmps30
              go_wp2_with (first | ((with_reducible refine gate_callee (f := 19) rfl ?_); refine goesL_ (some 12) rfl rfl Try.func19 (by kernel_rfl) rfl #[.int .i64 2024, .int .i64 1, .int .i64 1] rfl (by (try simp only [List.map_toArray, List.map_cons, List.map_nil]); first | done | rfl | (simp only [List.length_drop, List.length_take]; rfl)) ?_; (with_reducible refine (cal_Number.calls k 2024 1 1 t136 t137 _ A1.out).mono ?_); rintro e w' ⟨rfl, ⟨nd, rfl⟩⟩; refine ⟨_, rfl, ?_⟩) | ((with_reducible refine gate_callee (f := 19) rfl ?_); refine goesL_ (some 16) rfl rfl Try.func19 (by kernel_rfl) rfl #[.int .i64 2024, .int .i64 2, .int .i64 1] rfl (by (try simp only [List.map_toArray, List.map_cons, List.map_nil]); first | done | rfl | (simp only [List.length_drop, List.length_take]; rfl)) ?_; (with_reducible refine (cal_Number.calls k 2024 2 1 t138 t139 _ A2.out).mono ?_); rintro e w' ⟨rfl, ⟨nd, rfl⟩⟩; refine ⟨_, rfl, ?_⟩) | ((with_reducible refine gate_callee (f := 32) rfl ?_); refine goesL_ (some 22) rfl rfl Try.func32 (by kernel_rfl) rfl #[.int .i64 0, .int .i64 t136, .int .i64 t138] rfl (by (try simp only [List.map_toArray, List.map_cons, List.map_nil]); first | done | rfl | (simp only [List.length_drop, List.length_take]; rfl)) ?_; (with_reducible refine (basis_Part.calls k 0 t136 t138 t140 t141 t142 _ A3.out).mono ?_); rintro e w16 ⟨rfl, hb⟩; refine ⟨_, rfl, ?_⟩; have n0_ := Aside0.mk (below_step (by repeat (first | (with_reducible first | exact HB.out | apply below_alloc | apply pw_below_drewN | apply below_drew1) | exact HB.out)) hb); clear HB; have HB := n0_; clear n0_; (try clear hb); (try clear hb2); (try clear hk); (try clear hi)) | ((with_reducible refine gate_callee (f := 32) rfl ?_); refine goesL_ (some 29) rfl rfl Try.func32 (by kernel_rfl) rfl #[.int .i64 2, .int .i64 t136, .int .i64 t138] rfl (by (try simp only [List.map_toArray, List.map_cons, List.map_nil]); first | done | rfl | (simp only [List.length_drop, List.length_take]; rfl)) ?_; (with_reducible refine (basis_Part.calls k 2 t136 t138 t143 t144 t145 _ A4.out).mono ?_); rintro e w17 ⟨rfl, hb⟩; refine ⟨_, rfl, ?_⟩; have n0_ := Aside0.mk (below_step (by repeat (first | (with_reducible first | exact HB.out | apply below_alloc | apply pw_below_drewN | apply below_drew1) | exact HB.out)) hb); clear HB; have HB := n0_; clear n0_; (try clear hb); (try clear hb2); (try clear hk); (try clear hi)))
              go_ret
              exact ⟨by first | rfl | (simp [errW_none, errW_some] <;> rfl) | (simp [*, errW_none, errW_some] <;> rfl), by repeat (first | (with_reducible first | exact HB.out | apply below_alloc | apply pw_below_drewN | apply below_drew1) | exact HB.out)⟩
          · rw [if_neg c9] at H
            have c9b0 : (t140 == 31) = false := beq_eq_false_iff_ne.mpr c9
            have c9b1 : (t140 != 31) = true := bne_iff_ne.mpr c9
            obtain rfl := Option.some.inj H
            go_enter Try.func30, Try.ntmps30
            go_wp2_with (first | ((with_reducible refine gate_callee (f := 19) rfl ?_); refine goesL_ (some 12) rfl rfl Try.func19 (by kernel_rfl) rfl #[.int .i64 2024, .int .i64 1, .int .i64 1] rfl (by (try simp only [List.map_toArray, List.map_cons, List.map_nil]); first | done | rfl | (simp only [List.length_drop, List.length_take]; rfl)) ?_; (with_reducible refine (cal_Number.calls k 2024 1 1 t136 t137 _ A1.out).mono ?_); rintro e w' ⟨rfl, ⟨nd, rfl⟩⟩; refine ⟨_, rfl, ?_⟩) | ((with_reducible refine gate_callee (f := 19) rfl ?_); refine goesL_ (some 16) rfl rfl Try.func19 (by kernel_rfl) rfl #[.int .i64 2024, .int .i64 2, .int .i64 1] rfl (by (try simp only [List.map_toArray, List.map_cons, List.map_nil]); first | done | rfl | (simp only [List.length_drop, List.length_take]; rfl)) ?_; (with_reducible refine (cal_Number.calls k 2024 2 1 t138 t139 _ A2.out).mono ?_); rintro e w' ⟨rfl, ⟨nd, rfl⟩⟩; refine ⟨_, rfl, ?_⟩) | ((with_reducible refine gate_callee (f := 32) rfl ?_); refine goesL_ (some 22) rfl rfl Try.func32 (by kernel_rfl) rfl #[.int .i64 0, .int .i64 t136, .int .i64 t138] rfl (by (try simp only [List.map_toArray, List.map_cons, List.map_nil]); first | done | rfl | (simp only [List.length_drop, List.length_take]; rfl)) ?_; (with_reducible refine (basis_Part.calls k 0 t136 t138 t140 t141 t142 _ A3.out).mono ?_); rintro e w18 ⟨rfl, hb⟩; refine ⟨_, rfl, ?_⟩; have n0_ := Aside0.mk (below_step (by repeat (first | (with_reducible first | exact HB.out | apply below_alloc | apply pw_below_drewN | apply below_drew1) | exact HB.out)) hb); clear HB; have HB := n0_; clear n0_; (try clear hb); (try clear hb2); (try clear hk); (try clear hi)) | ((with_reducible refine gate_callee (f := 32) rfl ?_); refine goesL_ (some 29) rfl rfl Try.func32 (by kernel_rfl) rfl #[.int .i64 2, .int .i64 t136, .int .i64 t138] rfl (by (try simp only [List.map_toArray, List.map_cons, List.map_nil]); first | done | rfl | (simp only [List.length_drop, List.length_take]; rfl)) ?_; (with_reducible refine (basis_Part.calls k 2 t136 t138 t143 t144 t145 _ A4.out).mono ?_); rintro e w19 ⟨rfl, hb⟩; refine ⟨_, rfl, ?_⟩; have n0_ := Aside0.mk (below_step (by repeat (first | (with_reducible first | exact HB.out | apply below_alloc | apply pw_below_drewN | apply below_drew1) | exact HB.out)) hb); clear HB; have HB := n0_; clear n0_; (try clear hb); (try clear hb2); (try clear hk); (try clear hi)))
            go_ret
            exact ⟨by first | rfl | (simp [errW_none, errW_some] <;> rfl) | (simp [*, errW_none, errW_some] <;> rfl), by repeat (first | (with_reducible first | exact HB.out | apply below_alloc | apply pw_below_drewN | apply below_drew1) | exact HB.out)⟩
        · rw [if_neg c8] at H
          have c8b0 : (t145 == 0) = false := beq_eq_false_iff_ne.mpr c8
          have c8b1 : (t145 != 0) = true := bne_iff_ne.mpr c8
          obtain rfl := Option.some.inj H
          go_enter Try.func30, Try.ntmps30
          go_wp2_with (first | ((with_reducible refine gate_callee (f := 19) rfl ?_); refine goesL_ (some 12) rfl rfl Try.func19 (by kernel_rfl) rfl #[.int .i64 2024, .int .i64 1, .int .i64 1] rfl (by (try simp only [List.map_toArray, List.map_cons, List.map_nil]); first | done | rfl | (simp only [List.length_drop, List.length_take]; rfl)) ?_; (with_reducible refine (cal_Number.calls k 2024 1 1 t136 t137 _ A1.out).mono ?_); rintro e w' ⟨rfl, ⟨nd, rfl⟩⟩; refine ⟨_, rfl, ?_⟩) | ((with_reducible refine gate_callee (f := 19) rfl ?_); refine goesL_ (some 16) rfl rfl Try.func19 (by kernel_rfl) rfl #[.int .i64 2024, .int .i64 2, .int .i64 1] rfl (by (try simp only [List.map_toArray, List.map_cons, List.map_nil]); first | done | rfl | (simp only [List.length_drop, List.length_take]; rfl)) ?_; (with_reducible refine (cal_Number.calls k 2024 2 1 t138 t139 _ A2.out).mono ?_); rintro e w' ⟨rfl, ⟨nd, rfl⟩⟩; refine ⟨_, rfl, ?_⟩) | ((with_reducible refine gate_callee (f := 32) rfl ?_); refine goesL_ (some 22) rfl rfl Try.func32 (by kernel_rfl) rfl #[.int .i64 0, .int .i64 t136, .int .i64 t138] rfl (by (try simp only [List.map_toArray, List.map_cons, List.map_nil]); first | done | rfl | (simp only [List.length_drop, List.length_take]; rfl)) ?_; (with_reducible refine (basis_Part.calls k 0 t136 t138 t140 t141 t142 _ A3.out).mono ?_); rintro e w20 ⟨rfl, hb⟩; refine ⟨_, rfl, ?_⟩; have n0_ := Aside0.mk (below_step (by repeat (first | (with_reducible first | exact HB.out | apply below_alloc | apply pw_below_drewN | apply below_drew1) | exact HB.out)) hb); clear HB; have HB := n0_; clear n0_; (try clear hb); (try clear hb2); (try clear hk); (try clear hi)) | ((with_reducible refine gate_callee (f := 32) rfl ?_); refine goesL_ (some 29) rfl rfl Try.func32 (by kernel_rfl) rfl #[.int .i64 2, .int .i64 t136, .int .i64 t138] rfl (by (try simp only [List.map_toArray, List.map_cons, List.map_nil]); first | done | rfl | (simp only [List.length_drop, List.length_take]; rfl)) ?_; (with_reducible refine (basis_Part.calls k 2 t136 t138 t143 t144 t145 _ A4.out).mono ?_); rintro e w21 ⟨rfl, hb⟩; refine ⟨_, rfl, ?_⟩; have n0_ := Aside0.mk (below_step (by repeat (first | (with_reducible first | exact HB.out | apply below_alloc | apply pw_below_drewN | apply below_drew1) | exact HB.out)) hb); clear HB; have HB := n0_; clear n0_; (try clear hb); (try clear hb2); (try clear hk); (try clear hi)))
          go_ret
          exact ⟨by first | rfl | (simp [errW_none, errW_some] <;> rfl) | (simp [*, errW_none, errW_some] <;> rfl), by repeat (first | (with_reducible first | exact HB.out | apply below_alloc | apply pw_below_drewN | apply below_drew1) | exact HB.out)⟩
      · rw [if_neg c7] at H
        have c7b0 : (t142 == 0) = false := beq_eq_false_iff_ne.mpr c7
        have c7b1 : (t142 != 0) = true := bne_iff_ne.mpr c7
        obtain rfl := Option.some.inj H
        go_enter Try.func30, Try.ntmps30
        go_wp2_with (first | ((with_reducible refine gate_callee (f := 19) rfl ?_); refine goesL_ (some 12) rfl rfl Try.func19 (by kernel_rfl) rfl #[.int .i64 2024, .int .i64 1, .int .i64 1] rfl (by (try simp only [List.map_toArray, List.map_cons, List.map_nil]); first | done | rfl | (simp only [List.length_drop, List.length_take]; rfl)) ?_; (with_reducible refine (cal_Number.calls k 2024 1 1 t136 t137 _ A1.out).mono ?_); rintro e w' ⟨rfl, ⟨nd, rfl⟩⟩; refine ⟨_, rfl, ?_⟩) | ((with_reducible refine gate_callee (f := 19) rfl ?_); refine goesL_ (some 16) rfl rfl Try.func19 (by kernel_rfl) rfl #[.int .i64 2024, .int .i64 2, .int .i64 1] rfl (by (try simp only [List.map_toArray, List.map_cons, List.map_nil]); first | done | rfl | (simp only [List.length_drop, List.length_take]; rfl)) ?_; (with_reducible refine (cal_Number.calls k 2024 2 1 t138 t139 _ A2.out).mono ?_); rintro e w' ⟨rfl, ⟨nd, rfl⟩⟩; refine ⟨_, rfl, ?_⟩) | ((with_reducible refine gate_callee (f := 32) rfl ?_); refine goesL_ (some 22) rfl rfl Try.func32 (by kernel_rfl) rfl #[.int .i64 0, .int .i64 t136, .int .i64 t138] rfl (by (try simp only [List.map_toArray, List.map_cons, List.map_nil]); first | done | rfl | (simp only [List.length_drop, List.length_take]; rfl)) ?_; (with_reducible refine (basis_Part.calls k 0 t136 t138 t140 t141 t142 _ A3.out).mono ?_); rintro e w22 ⟨rfl, hb⟩; refine ⟨_, rfl, ?_⟩; have n0_ := Aside0.mk (below_step (by repeat (first | (with_reducible first | exact HB.out | apply below_alloc | apply pw_below_drewN | apply below_drew1) | exact HB.out)) hb); clear HB; have HB := n0_; clear n0_; (try clear hb); (try clear hb2); (try clear hk); (try clear hi)) | ((with_reducible refine gate_callee (f := 32) rfl ?_); refine goesL_ (some 29) rfl rfl Try.func32 (by kernel_rfl) rfl #[.int .i64 2, .int .i64 t136, .int .i64 t138] rfl (by (try simp only [List.map_toArray, List.map_cons, List.map_nil]); first | done | rfl | (simp only [List.length_drop, List.length_take]; rfl)) ?_; (with_reducible refine (basis_Part.calls k 2 t136 t138 t143 t144 t145 _ A4.out).mono ?_); rintro e w23 ⟨rfl, hb⟩; refine ⟨_, rfl, ?_⟩; have n0_ := Aside0.mk (below_step (by repeat (first | (with_reducible first | exact HB.out | apply below_alloc | apply pw_below_drewN | apply below_drew1) | exact HB.out)) hb); clear HB; have HB := n0_; clear n0_; (try clear hb); (try clear hb2); (try clear hk); (try clear hi)))
        go_ret
        exact ⟨by first | rfl | (simp [errW_none, errW_some] <;> rfl) | (simp [*, errW_none, errW_some] <;> rfl), by repeat (first | (with_reducible first | exact HB.out | apply below_alloc | apply pw_below_drewN | apply below_drew1) | exact HB.out)⟩
    · rw [if_neg c6] at H
      have c6b0 : (t139 == 0) = false := beq_eq_false_iff_ne.mpr c6
      have c6b1 : (t139 != 0) = true := bne_iff_ne.mpr c6
      obtain rfl := Option.some.inj H
      go_enter Try.func30, Try.ntmps30
      go_wp2_with (first | ((with_reducible refine gate_callee (f := 19) rfl ?_); refine goesL_ (some 12) rfl rfl Try.func19 (by kernel_rfl) rfl #[.int .i64 2024, .int .i64 1, .int .i64 1] rfl (by (try simp only [List.map_toArray, List.map_cons, List.map_nil]); first | done | rfl | (simp only [List.length_drop, List.length_take]; rfl)) ?_; (with_reducible refine (cal_Number.calls k 2024 1 1 t136 t137 _ A1.out).mono ?_); rintro e w' ⟨rfl, ⟨nd, rfl⟩⟩; refine ⟨_, rfl, ?_⟩) | ((with_reducible refine gate_callee (f := 19) rfl ?_); refine goesL_ (some 16) rfl rfl Try.func19 (by kernel_rfl) rfl #[.int .i64 2024, .int .i64 2, .int .i64 1] rfl (by (try simp only [List.map_toArray, List.map_cons, List.map_nil]); first | done | rfl | (simp only [List.length_drop, List.length_take]; rfl)) ?_; (with_reducible refine (cal_Number.calls k 2024 2 1 t138 t139 _ A2.out).mono ?_); rintro e w' ⟨rfl, ⟨nd, rfl⟩⟩; refine ⟨_, rfl, ?_⟩) | ((with_reducible refine gate_callee (f := 32) rfl ?_); refine goesL_ (some 22) rfl rfl Try.func32 (by kernel_rfl) rfl #[.int .i64 0, .int .i64 t136, .int .i64 t138] rfl (by (try simp only [List.map_toArray, List.map_cons, List.map_nil]); first | done | rfl | (simp only [List.length_drop, List.length_take]; rfl)) ?_; (with_reducible refine (basis_Part.calls k 0 t136 t138 t140 t141 t142 _ A3.out).mono ?_); rintro e w24 ⟨rfl, hb⟩; refine ⟨_, rfl, ?_⟩; have n0_ := Aside0.mk (below_step (by repeat (first | (with_reducible first | exact HB.out | apply below_alloc | apply pw_below_drewN | apply below_drew1) | exact HB.out)) hb); clear HB; have HB := n0_; clear n0_; (try clear hb); (try clear hb2); (try clear hk); (try clear hi)) | ((with_reducible refine gate_callee (f := 32) rfl ?_); refine goesL_ (some 29) rfl rfl Try.func32 (by kernel_rfl) rfl #[.int .i64 2, .int .i64 t136, .int .i64 t138] rfl (by (try simp only [List.map_toArray, List.map_cons, List.map_nil]); first | done | rfl | (simp only [List.length_drop, List.length_take]; rfl)) ?_; (with_reducible refine (basis_Part.calls k 2 t136 t138 t143 t144 t145 _ A4.out).mono ?_); rintro e w25 ⟨rfl, hb⟩; refine ⟨_, rfl, ?_⟩; have n0_ := Aside0.mk (below_step (by repeat (first | (with_reducible first | exact HB.out | apply below_alloc | apply pw_below_drewN | apply below_drew1) | exact HB.out)) hb); clear HB; have HB := n0_; clear n0_; (try clear hb); (try clear hb2); (try clear hk); (try clear hi)))
      go_ret
      exact ⟨by first | rfl | (simp [errW_none, errW_some] <;> rfl) | (simp [*, errW_none, errW_some] <;> rfl), by repeat (first | (with_reducible first | exact HB.out | apply below_alloc | apply pw_below_drewN | apply below_drew1) | exact HB.out)⟩
  · rw [if_neg c5] at H
    have c5b0 : (t137 == 0) = false := beq_eq_false_iff_ne.mpr c5
    have c5b1 : (t137 != 0) = true := bne_iff_ne.mpr c5
    obtain rfl := Option.some.inj H
    go_enter Try.func30, Try.ntmps30
    go_wp2_with (first | ((with_reducible refine gate_callee (f := 19) rfl ?_); refine goesL_ (some 12) rfl rfl Try.func19 (by kernel_rfl) rfl #[.int .i64 2024, .int .i64 1, .int .i64 1] rfl (by (try simp only [List.map_toArray, List.map_cons, List.map_nil]); first | done | rfl | (simp only [List.length_drop, List.length_take]; rfl)) ?_; (with_reducible refine (cal_Number.calls k 2024 1 1 t136 t137 _ A1.out).mono ?_); rintro e w' ⟨rfl, ⟨nd, rfl⟩⟩; refine ⟨_, rfl, ?_⟩) | ((with_reducible refine gate_callee (f := 19) rfl ?_); refine goesL_ (some 16) rfl rfl Try.func19 (by kernel_rfl) rfl #[.int .i64 2024, .int .i64 2, .int .i64 1] rfl (by (try simp only [List.map_toArray, List.map_cons, List.map_nil]); first | done | rfl | (simp only [List.length_drop, List.length_take]; rfl)) ?_; (with_reducible refine (cal_Number.calls k 2024 2 1 t138 t139 _ A2.out).mono ?_); rintro e w' ⟨rfl, ⟨nd, rfl⟩⟩; refine ⟨_, rfl, ?_⟩) | ((with_reducible refine gate_callee (f := 32) rfl ?_); refine goesL_ (some 22) rfl rfl Try.func32 (by kernel_rfl) rfl #[.int .i64 0, .int .i64 t136, .int .i64 t138] rfl (by (try simp only [List.map_toArray, List.map_cons, List.map_nil]); first | done | rfl | (simp only [List.length_drop, List.length_take]; rfl)) ?_; (with_reducible refine (basis_Part.calls k 0 t136 t138 t140 t141 t142 _ A3.out).mono ?_); rintro e w26 ⟨rfl, hb⟩; refine ⟨_, rfl, ?_⟩; have n0_ := Aside0.mk (below_step (by repeat (first | (with_reducible first | exact HB.out | apply below_alloc | apply pw_below_drewN | apply below_drew1) | exact HB.out)) hb); clear HB; have HB := n0_; clear n0_; (try clear hb); (try clear hb2); (try clear hk); (try clear hi)) | ((with_reducible refine gate_callee (f := 32) rfl ?_); refine goesL_ (some 29) rfl rfl Try.func32 (by kernel_rfl) rfl #[.int .i64 2, .int .i64 t136, .int .i64 t138] rfl (by (try simp only [List.map_toArray, List.map_cons, List.map_nil]); first | done | rfl | (simp only [List.length_drop, List.length_take]; rfl)) ?_; (with_reducible refine (basis_Part.calls k 2 t136 t138 t143 t144 t145 _ A4.out).mono ?_); rintro e w27 ⟨rfl, hb⟩; refine ⟨_, rfl, ?_⟩; have n0_ := Aside0.mk (below_step (by repeat (first | (with_reducible first | exact HB.out | apply below_alloc | apply pw_below_drewN | apply below_drew1) | exact HB.out)) hb); clear HB; have HB := n0_; clear n0_; (try clear hb); (try clear hb2); (try clear hk); (try clear hi)))
    go_ret
    exact ⟨by first | rfl | (simp [errW_none, errW_some] <;> rfl) | (simp [*, errW_none, errW_some] <;> rfl), by repeat (first | (with_reducible first | exact HB.out | apply below_alloc | apply pw_below_drewN | apply below_drew1) | exact HB.out)⟩

/-! ### passbooklaw04_days: function 31 -/
def passbooklaw04_days.f (a0 : Int) (a1 : Int) (a2 : Int) : Option (Int × Int × Int) := some (wrap64 (1 + (wrap64 (Int.tmod (IntKind.u64.wrap (a0)) 3652059))), mn (wrap64 ((wrap64 (1 + (wrap64 (Int.tmod (IntKind.u64.wrap (a0)) 3652059)))) + (wrap64 (Int.tmod (IntKind.u64.wrap (a1)) 4000)))) 3652059, mn (wrap64 ((mn (wrap64 ((wrap64 (1 + (wrap64 (Int.tmod (IntKind.u64.wrap (a0)) 3652059)))) + (wrap64 (Int.tmod (IntKind.u64.wrap (a1)) 4000)))) 3652059) + (wrap64 (Int.tmod (IntKind.u64.wrap (a2)) 4000)))) 3652059)
set_option maxHeartbeats 8000000 in
set_option maxRecDepth 100000 in
theorem passbooklaw04_days.calls (a0 : Int) (a1 : Int) (a2 : Int) (r1 : Int) (r2 : Int) (r3 : Int) (w : World) (h : passbooklaw04_days.f a0 a1 a2 = some (r1, r2, r3)) :
    Calls Try.prog 31 #[.int .i64 a0, .int .i64 a1, .int .i64 a2] w fun e w' => e = .returned (.tuple #[.int .i64 r1, .int .i64 r2, .int .i64 r3]) ∧ Below w.heap.size w w' := by
  have HB := Aside0.mk (Below.refl w.heap.size w)
  have H : (some (wrap64 (1 + (wrap64 (Int.tmod (IntKind.u64.wrap (a0)) 3652059))), mn (wrap64 ((wrap64 (1 + (wrap64 (Int.tmod (IntKind.u64.wrap (a0)) 3652059)))) + (wrap64 (Int.tmod (IntKind.u64.wrap (a1)) 4000)))) 3652059, mn (wrap64 ((mn (wrap64 ((wrap64 (1 + (wrap64 (Int.tmod (IntKind.u64.wrap (a0)) 3652059)))) + (wrap64 (Int.tmod (IntKind.u64.wrap (a1)) 4000)))) 3652059) + (wrap64 (Int.tmod (IntKind.u64.wrap (a2)) 4000)))) 3652059)) = some (r1, r2, r3) := h
  clear h
  obtain ⟨ji4, hji4⟩ : ∃ j_ : Int, (mn (wrap64 ((wrap64 (1 + (wrap64 (Int.tmod (IntKind.u64.wrap (a0)) 3652059)))) + (wrap64 (Int.tmod (IntKind.u64.wrap (a1)) 4000)))) 3652059) = j_ := ⟨_, rfl⟩
  replace H : (some (wrap64 (1 + (wrap64 (Int.tmod (IntKind.u64.wrap (a0)) 3652059))), ji4, mn (wrap64 ((ji4) + (wrap64 (Int.tmod (IntKind.u64.wrap (a2)) 4000)))) 3652059)) = some (r1, r2, r3) := by first | (rw [hji4] at H; exact H) | (simp only [hji4] at H ⊢; exact H)
  (try (have hji4h : ji4 ≤ 3652059 := by (rw [← hji4]; unfold mn; (repeat' split) <;> omega)))
  (try (have hji4g : ji4 ≤ 64 := by omega))
  have hji4_ : (if 3652059 < (wrap64 ((wrap64 (1 + (wrap64 (Int.tmod (IntKind.u64.wrap (a0)) 3652059)))) + (wrap64 (Int.tmod (IntKind.u64.wrap (a1)) 4000)))) then 3652059 else (wrap64 ((wrap64 (1 + (wrap64 (Int.tmod (IntKind.u64.wrap (a0)) 3652059)))) + (wrap64 (Int.tmod (IntKind.u64.wrap (a1)) 4000))))) = ji4 := hji4
  obtain ⟨ji5, hji5⟩ : ∃ j_ : Int, (mn (wrap64 ((ji4) + (wrap64 (Int.tmod (IntKind.u64.wrap (a2)) 4000)))) 3652059) = j_ := ⟨_, rfl⟩
  replace H : (some (wrap64 (1 + (wrap64 (Int.tmod (IntKind.u64.wrap (a0)) 3652059))), ji4, ji5)) = some (r1, r2, r3) := by first | (rw [hji5] at H; exact H) | (simp only [hji5] at H ⊢; exact H)
  have hji5_ : (if 3652059 < (wrap64 ((ji4) + (wrap64 (Int.tmod (IntKind.u64.wrap (a2)) 4000)))) then 3652059 else (wrap64 ((ji4) + (wrap64 (Int.tmod (IntKind.u64.wrap (a2)) 4000))))) = ji5 := hji5
  simp only [Option.some.injEq, Prod.mk.injEq] at H
  obtain ⟨rfl, rfl, rfl⟩ := H
  go_enter Try.func31, Try.ntmps31
  go_wp2
  go_ret3
  exact ⟨by first | rfl | (simp [errW_none, errW_some] <;> rfl) | (simp only [← hji4, ← hji5]; first | rfl | (simp [errW_none, errW_some] <;> rfl)) | (simp [*, errW_none, errW_some] <;> rfl), by repeat (first | (with_reducible first | exact HB.out | apply below_alloc | apply pw_below_drewN | apply below_drew1) | exact HB.out)⟩

/-! ### passbooklaw04_BasisAdds: function 9 -/
def passbooklaw04_BasisAdds.f (k : Nat) (a0 : Int) (a1 : Int) (a2 : Int) (a3 : Int) : Option (Bool) := (passbooklaw04_awake.f k).bind fun t146 => (if t146 = true then ((passbooklaw04_days.f a0 a1 a2).bind fun bt147 => ((basis_Part.f k (wrap64 (Int.tmod a3 4)) bt147.1 bt147.2.1).bind fun bt150 => ((basis_Part.f k (wrap64 (Int.tmod a3 4)) bt147.2.1 bt147.2.2).bind fun bt153 => ((basis_Part.f k (wrap64 (Int.tmod a3 4)) bt147.1 bt147.2.2).bind fun bt156 => (if bt150.2.2 = 0 then (if bt153.2.2 = 0 then (if bt156.2.2 = 0 then (if bt150.2.1 = bt153.2.1 then (if bt150.2.1 = bt156.2.1 then (if bt150.1 < 0 then (some false) else (if bt153.1 < 0 then (some false) else (if bt156.1 < bt150.1 then (some false) else (some ((wrap64 (bt150.1 + bt153.1)) == bt156.1))))) else (some false)) else (some false)) else (some false)) else (some false)) else (some false)))))) else (some false))
theorem passbooklaw04_BasisAdds.mono : ∀ a0 a1 a2 a3 k, LeO (passbooklaw04_BasisAdds.f k a0 a1 a2 a3) (passbooklaw04_BasisAdds.f (k + 1) a0 a1 a2 a3) := by
  intro a0 a1 a2 a3 k
  unfold passbooklaw04_BasisAdds.f
  repeat' first
      | (with_reducible exact basis_Part.mono _ _ _ _)
      | (with_reducible exact passbooklaw04_awake.mono _)
      | (with_reducible exact LeO.refl _)
      | (with_reducible exact LeO.none _)
      | (with_reducible refine LeO.ite ?_ ?_)
      | (with_reducible refine LeO.bind ?_ (fun _ => ?_))
      | exact basis_Part.mono _ _ _ _
      | exact passbooklaw04_awake.mono _
      | exact LeO.none _
      | refine LeO.ite ?_ ?_
      | refine LeO.bind ?_ (fun _ => ?_)
set_option maxHeartbeats 8000000 in
set_option maxRecDepth 100000 in
theorem passbooklaw04_BasisAdds.calls (k : Nat) (a0 : Int) (a1 : Int) (a2 : Int) (a3 : Int) (r : Bool) (w : World) (h : passbooklaw04_BasisAdds.f k a0 a1 a2 a3 = some r) :
    Calls Try.prog 9 #[.int .i64 a0, .int .i64 a1, .int .i64 a2, .int .u8 a3] w fun e w' => e = .returned (.bool r) ∧ Below w.heap.size w w' := by
  have HB := Aside0.mk (Below.refl w.heap.size w)
  have H : ((passbooklaw04_awake.f k).bind fun t146 => (if t146 = true then ((passbooklaw04_days.f a0 a1 a2).bind fun bt147 => ((basis_Part.f k (wrap64 (Int.tmod a3 4)) bt147.1 bt147.2.1).bind fun bt150 => ((basis_Part.f k (wrap64 (Int.tmod a3 4)) bt147.2.1 bt147.2.2).bind fun bt153 => ((basis_Part.f k (wrap64 (Int.tmod a3 4)) bt147.1 bt147.2.2).bind fun bt156 => (if bt150.2.2 = 0 then (if bt153.2.2 = 0 then (if bt156.2.2 = 0 then (if bt150.2.1 = bt153.2.1 then (if bt150.2.1 = bt156.2.1 then (if bt150.1 < 0 then (some false) else (if bt153.1 < 0 then (some false) else (if bt156.1 < bt150.1 then (some false) else (some ((wrap64 (bt150.1 + bt153.1)) == bt156.1))))) else (some false)) else (some false)) else (some false)) else (some false)) else (some false)))))) else (some false))) = some r := h
  clear h
  replace H := Option.bind_eq_some_iff.mp H
  obtain ⟨t146, A50, H⟩ := H
  replace H : (if t146 = true then ((passbooklaw04_days.f a0 a1 a2).bind fun bt147 => ((basis_Part.f k (wrap64 (Int.tmod a3 4)) bt147.1 bt147.2.1).bind fun bt150 => ((basis_Part.f k (wrap64 (Int.tmod a3 4)) bt147.2.1 bt147.2.2).bind fun bt153 => ((basis_Part.f k (wrap64 (Int.tmod a3 4)) bt147.1 bt147.2.2).bind fun bt156 => (if bt150.2.2 = 0 then (if bt153.2.2 = 0 then (if bt156.2.2 = 0 then (if bt150.2.1 = bt153.2.1 then (if bt150.2.1 = bt156.2.1 then (if bt150.1 < 0 then (some false) else (if bt153.1 < 0 then (some false) else (if bt156.1 < bt150.1 then (some false) else (some ((wrap64 (bt150.1 + bt153.1)) == bt156.1))))) else (some false)) else (some false)) else (some false)) else (some false)) else (some false)))))) else (some false)) = some r := H
  have A5 := Aside0.mk A50
  clear A50
  by_cases c6 : t146 = true
  · subst c6
    have H1 : ((passbooklaw04_days.f a0 a1 a2).bind fun bt147 => ((basis_Part.f k (wrap64 (Int.tmod a3 4)) bt147.1 bt147.2.1).bind fun bt150 => ((basis_Part.f k (wrap64 (Int.tmod a3 4)) bt147.2.1 bt147.2.2).bind fun bt153 => ((basis_Part.f k (wrap64 (Int.tmod a3 4)) bt147.1 bt147.2.2).bind fun bt156 => (if bt150.2.2 = 0 then (if bt153.2.2 = 0 then (if bt156.2.2 = 0 then (if bt150.2.1 = bt153.2.1 then (if bt150.2.1 = bt156.2.1 then (if bt150.1 < 0 then (some false) else (if bt153.1 < 0 then (some false) else (if bt156.1 < bt150.1 then (some false) else (some ((wrap64 (bt150.1 + bt153.1)) == bt156.1))))) else (some false)) else (some false)) else (some false)) else (some false)) else (some false)))))) = some r := by rw [if_pos rfl] at H; exact H
    clear H
    have H := H1
    clear H1
    replace H := Option.bind_eq_some_iff.mp H
    obtain ⟨⟨t147, t148, t149⟩, A70, H⟩ := H
    replace H : ((basis_Part.f k (wrap64 (Int.tmod a3 4)) t147 t148).bind fun bt150 => ((basis_Part.f k (wrap64 (Int.tmod a3 4)) t148 t149).bind fun bt153 => ((basis_Part.f k (wrap64 (Int.tmod a3 4)) t147 t149).bind fun bt156 => (if bt150.2.2 = 0 then (if bt153.2.2 = 0 then (if bt156.2.2 = 0 then (if bt150.2.1 = bt153.2.1 then (if bt150.2.1 = bt156.2.1 then (if bt150.1 < 0 then (some false) else (if bt153.1 < 0 then (some false) else (if bt156.1 < bt150.1 then (some false) else (some ((wrap64 (bt150.1 + bt153.1)) == bt156.1))))) else (some false)) else (some false)) else (some false)) else (some false)) else (some false))))) = some r := H
    have A7 := Aside0.mk A70
    clear A70
    replace H := Option.bind_eq_some_iff.mp H
    obtain ⟨⟨t150, t151, t152⟩, A80, H⟩ := H
    replace H : ((basis_Part.f k (wrap64 (Int.tmod a3 4)) t148 t149).bind fun bt153 => ((basis_Part.f k (wrap64 (Int.tmod a3 4)) t147 t149).bind fun bt156 => (if t152 = 0 then (if bt153.2.2 = 0 then (if bt156.2.2 = 0 then (if t151 = bt153.2.1 then (if t151 = bt156.2.1 then (if t150 < 0 then (some false) else (if bt153.1 < 0 then (some false) else (if bt156.1 < t150 then (some false) else (some ((wrap64 (t150 + bt153.1)) == bt156.1))))) else (some false)) else (some false)) else (some false)) else (some false)) else (some false)))) = some r := H
    have A8 := Aside0.mk A80
    clear A80
    replace H := Option.bind_eq_some_iff.mp H
    obtain ⟨⟨t153, t154, t155⟩, A90, H⟩ := H
    replace H : ((basis_Part.f k (wrap64 (Int.tmod a3 4)) t147 t149).bind fun bt156 => (if t152 = 0 then (if t155 = 0 then (if bt156.2.2 = 0 then (if t151 = t154 then (if t151 = bt156.2.1 then (if t150 < 0 then (some false) else (if t153 < 0 then (some false) else (if bt156.1 < t150 then (some false) else (some ((wrap64 (t150 + t153)) == bt156.1))))) else (some false)) else (some false)) else (some false)) else (some false)) else (some false))) = some r := H
    have A9 := Aside0.mk A90
    clear A90
    replace H := Option.bind_eq_some_iff.mp H
    obtain ⟨⟨t156, t157, t158⟩, A100, H⟩ := H
    replace H : (if t152 = 0 then (if t155 = 0 then (if t158 = 0 then (if t151 = t154 then (if t151 = t157 then (if t150 < 0 then (some false) else (if t153 < 0 then (some false) else (if t156 < t150 then (some false) else (some ((wrap64 (t150 + t153)) == t156))))) else (some false)) else (some false)) else (some false)) else (some false)) else (some false)) = some r := H
    have A10 := Aside0.mk A100
    clear A100
    by_cases c11 : t152 = 0
    · rw [if_pos c11] at H
      have c11b0 : (t152 == 0) = true := beq_iff_eq.mpr c11
      have c11b1 : (t152 != 0) = false := bne_eq_false_iff_eq.mpr c11
      clear c11
      by_cases c12 : t155 = 0
      · rw [if_pos c12] at H
        have c12b0 : (t155 == 0) = true := beq_iff_eq.mpr c12
        have c12b1 : (t155 != 0) = false := bne_eq_false_iff_eq.mpr c12
        clear c12
        by_cases c13 : t158 = 0
        · rw [if_pos c13] at H
          have c13b0 : (t158 == 0) = true := beq_iff_eq.mpr c13
          have c13b1 : (t158 != 0) = false := bne_eq_false_iff_eq.mpr c13
          clear c13
          by_cases c14 : t151 = t154
          · rw [if_pos c14] at H
            have c14b0 : (t151 == t154) = true := beq_iff_eq.mpr c14
            have c14b1 : (t151 != t154) = false := bne_eq_false_iff_eq.mpr c14
            clear c14
            by_cases c15 : t151 = t157
            · rw [if_pos c15] at H
              have c15b0 : (t151 == t157) = true := beq_iff_eq.mpr c15
              have c15b1 : (t151 != t157) = false := bne_eq_false_iff_eq.mpr c15
              clear c15
              by_cases c16 : t150 < 0
              · rw [if_pos c16] at H
                have c16b0 : decide (t150 < 0) = true := decide_eq_true c16
                clear c16
                obtain rfl := Option.some.inj H
                go_enter Try.func9, Try.ntmps9
                go_wp2_with (first | ((with_reducible refine gate_callee (f := 30) rfl ?_); refine goesL_ (some 22) rfl rfl Try.func30 (by kernel_rfl) rfl #[] rfl (by (try simp only [List.map_toArray, List.map_cons, List.map_nil]); first | done | rfl | (simp only [List.length_drop, List.length_take]; rfl)) ?_; (with_reducible refine (passbooklaw04_awake.calls k  true _ A5.out).mono ?_); rintro e w17 ⟨rfl, hb⟩; refine ⟨_, rfl, ?_⟩; have n0_ := Aside0.mk (below_step (by repeat (first | (with_reducible first | exact HB.out | apply below_alloc | apply pw_below_drewN | apply below_drew1) | exact HB.out)) hb); clear HB; have HB := n0_; clear n0_; (try clear hb); (try clear hb2); (try clear hk); (try clear hi)) | ((with_reducible refine gate_callee (f := 31) rfl ?_); refine goesL_ (some 28) rfl rfl Try.func31 (by kernel_rfl) rfl #[.int .i64 a0, .int .i64 a1, .int .i64 a2] rfl (by (try simp only [List.map_toArray, List.map_cons, List.map_nil]); first | done | rfl | (simp only [List.length_drop, List.length_take]; rfl)) ?_; (with_reducible refine (passbooklaw04_days.calls a0 a1 a2 t147 t148 t149 _ A7.out).mono ?_); rintro e w18 ⟨rfl, hb⟩; refine ⟨_, rfl, ?_⟩; have n0_ := Aside0.mk (below_step (by repeat (first | (with_reducible first | exact HB.out | apply below_alloc | apply pw_below_drewN | apply below_drew1) | exact HB.out)) hb); clear HB; have HB := n0_; clear n0_; (try clear hb); (try clear hb2); (try clear hk); (try clear hi)) | ((with_reducible refine gate_callee (f := 32) rfl ?_); refine goesL_ (some 39) rfl rfl Try.func32 (by kernel_rfl) rfl #[.int .i64 (wrap64 (Int.tmod a3 4)), .int .i64 t147, .int .i64 t148] rfl (by (try simp only [List.map_toArray, List.map_cons, List.map_nil]); first | done | rfl | (simp only [List.length_drop, List.length_take]; rfl)) ?_; (with_reducible refine (basis_Part.calls k (wrap64 (Int.tmod a3 4)) t147 t148 t150 t151 t152 _ A8.out).mono ?_); rintro e w19 ⟨rfl, hb⟩; refine ⟨_, rfl, ?_⟩; have n0_ := Aside0.mk (below_step (by repeat (first | (with_reducible first | exact HB.out | apply below_alloc | apply pw_below_drewN | apply below_drew1) | exact HB.out)) hb); clear HB; have HB := n0_; clear n0_; (try clear hb); (try clear hb2); (try clear hk); (try clear hi)) | ((with_reducible refine gate_callee (f := 32) rfl ?_); refine goesL_ (some 47) rfl rfl Try.func32 (by kernel_rfl) rfl #[.int .i64 (wrap64 (Int.tmod a3 4)), .int .i64 t148, .int .i64 t149] rfl (by (try simp only [List.map_toArray, List.map_cons, List.map_nil]); first | done | rfl | (simp only [List.length_drop, List.length_take]; rfl)) ?_; (with_reducible refine (basis_Part.calls k (wrap64 (Int.tmod a3 4)) t148 t149 t153 t154 t155 _ A9.out).mono ?_); rintro e w20 ⟨rfl, hb⟩; refine ⟨_, rfl, ?_⟩; have n0_ := Aside0.mk (below_step (by repeat (first | (with_reducible first | exact HB.out | apply below_alloc | apply pw_below_drewN | apply below_drew1) | exact HB.out)) hb); clear HB; have HB := n0_; clear n0_; (try clear hb); (try clear hb2); (try clear hk); (try clear hi)) | ((with_reducible refine gate_callee (f := 32) rfl ?_); refine goesL_ (some 55) rfl rfl Try.func32 (by kernel_rfl) rfl #[.int .i64 (wrap64 (Int.tmod a3 4)), .int .i64 t147, .int .i64 t149] rfl (by (try simp only [List.map_toArray, List.map_cons, List.map_nil]); first | done | rfl | (simp only [List.length_drop, List.length_take]; rfl)) ?_; (with_reducible refine (basis_Part.calls k (wrap64 (Int.tmod a3 4)) t147 t149 t156 t157 t158 _ A10.out).mono ?_); rintro e w21 ⟨rfl, hb⟩; refine ⟨_, rfl, ?_⟩; have n0_ := Aside0.mk (below_step (by repeat (first | (with_reducible first | exact HB.out | apply below_alloc | apply pw_below_drewN | apply below_drew1) | exact HB.out)) hb); clear HB; have HB := n0_; clear n0_; (try clear hb); (try clear hb2); (try clear hk); (try clear hi)))
                go_ret
                exact ⟨by first | rfl | (simp [errW_none, errW_some] <;> rfl) | (simp [*, errW_none, errW_some] <;> rfl), by repeat (first | (with_reducible first | exact HB.out | apply below_alloc | apply pw_below_drewN | apply below_drew1) | exact HB.out)⟩
              · rw [if_neg c16] at H
                have c16b0 : decide (t150 < 0) = false := decide_eq_false c16
                clear c16
                by_cases c22 : t153 < 0
                · rw [if_pos c22] at H
                  have c22b0 : decide (t153 < 0) = true := decide_eq_true c22
                  clear c22
                  obtain rfl := Option.some.inj H
                  go_enter Try.func9, Try.ntmps9
                  go_wp2_with (first | ((with_reducible refine gate_callee (f := 30) rfl ?_); refine goesL_ (some 22) rfl rfl Try.func30 (by kernel_rfl) rfl #[] rfl (by (try simp only [List.map_toArray, List.map_cons, List.map_nil]); first | done | rfl | (simp only [List.length_drop, List.length_take]; rfl)) ?_; (with_reducible refine (passbooklaw04_awake.calls k  true _ A5.out).mono ?_); rintro e w23 ⟨rfl, hb⟩; refine ⟨_, rfl, ?_⟩; have n0_ := Aside0.mk (below_step (by repeat (first | (with_reducible first | exact HB.out | apply below_alloc | apply pw_below_drewN | apply below_drew1) | exact HB.out)) hb); clear HB; have HB := n0_; clear n0_; (try clear hb); (try clear hb2); (try clear hk); (try clear hi)) | ((with_reducible refine gate_callee (f := 31) rfl ?_); refine goesL_ (some 28) rfl rfl Try.func31 (by kernel_rfl) rfl #[.int .i64 a0, .int .i64 a1, .int .i64 a2] rfl (by (try simp only [List.map_toArray, List.map_cons, List.map_nil]); first | done | rfl | (simp only [List.length_drop, List.length_take]; rfl)) ?_; (with_reducible refine (passbooklaw04_days.calls a0 a1 a2 t147 t148 t149 _ A7.out).mono ?_); rintro e w24 ⟨rfl, hb⟩; refine ⟨_, rfl, ?_⟩; have n0_ := Aside0.mk (below_step (by repeat (first | (with_reducible first | exact HB.out | apply below_alloc | apply pw_below_drewN | apply below_drew1) | exact HB.out)) hb); clear HB; have HB := n0_; clear n0_; (try clear hb); (try clear hb2); (try clear hk); (try clear hi)) | ((with_reducible refine gate_callee (f := 32) rfl ?_); refine goesL_ (some 39) rfl rfl Try.func32 (by kernel_rfl) rfl #[.int .i64 (wrap64 (Int.tmod a3 4)), .int .i64 t147, .int .i64 t148] rfl (by (try simp only [List.map_toArray, List.map_cons, List.map_nil]); first | done | rfl | (simp only [List.length_drop, List.length_take]; rfl)) ?_; (with_reducible refine (basis_Part.calls k (wrap64 (Int.tmod a3 4)) t147 t148 t150 t151 t152 _ A8.out).mono ?_); rintro e w25 ⟨rfl, hb⟩; refine ⟨_, rfl, ?_⟩; have n0_ := Aside0.mk (below_step (by repeat (first | (with_reducible first | exact HB.out | apply below_alloc | apply pw_below_drewN | apply below_drew1) | exact HB.out)) hb); clear HB; have HB := n0_; clear n0_; (try clear hb); (try clear hb2); (try clear hk); (try clear hi)) | ((with_reducible refine gate_callee (f := 32) rfl ?_); refine goesL_ (some 47) rfl rfl Try.func32 (by kernel_rfl) rfl #[.int .i64 (wrap64 (Int.tmod a3 4)), .int .i64 t148, .int .i64 t149] rfl (by (try simp only [List.map_toArray, List.map_cons, List.map_nil]); first | done | rfl | (simp only [List.length_drop, List.length_take]; rfl)) ?_; (with_reducible refine (basis_Part.calls k (wrap64 (Int.tmod a3 4)) t148 t149 t153 t154 t155 _ A9.out).mono ?_); rintro e w26 ⟨rfl, hb⟩; refine ⟨_, rfl, ?_⟩; have n0_ := Aside0.mk (below_step (by repeat (first | (with_reducible first | exact HB.out | apply below_alloc | apply pw_below_drewN | apply below_drew1) | exact HB.out)) hb); clear HB; have HB := n0_; clear n0_; (try clear hb); (try clear hb2); (try clear hk); (try clear hi)) | ((with_reducible refine gate_callee (f := 32) rfl ?_); refine goesL_ (some 55) rfl rfl Try.func32 (by kernel_rfl) rfl #[.int .i64 (wrap64 (Int.tmod a3 4)), .int .i64 t147, .int .i64 t149] rfl (by (try simp only [List.map_toArray, List.map_cons, List.map_nil]); first | done | rfl | (simp only [List.length_drop, List.length_take]; rfl)) ?_; (with_reducible refine (basis_Part.calls k (wrap64 (Int.tmod a3 4)) t147 t149 t156 t157 t158 _ A10.out).mono ?_); rintro e w27 ⟨rfl, hb⟩; refine ⟨_, rfl, ?_⟩; have n0_ := Aside0.mk (below_step (by repeat (first | (with_reducible first | exact HB.out | apply below_alloc | apply pw_below_drewN | apply below_drew1) | exact HB.out)) hb); clear HB; have HB := n0_; clear n0_; (try clear hb); (try clear hb2); (try clear hk); (try clear hi)))
                  go_ret
                  exact ⟨by first | rfl | (simp [errW_none, errW_some] <;> rfl) | (simp [*, errW_none, errW_some] <;> rfl), by repeat (first | (with_reducible first | exact HB.out | apply below_alloc | apply pw_below_drewN | apply below_drew1) | exact HB.out)⟩
                · rw [if_neg c22] at H
                  have c22b0 : decide (t153 < 0) = false := decide_eq_false c22
                  clear c22
                  by_cases c28 : t156 < t150
                  · rw [if_pos c28] at H
                    have c28b0 : decide (t156 < t150) = true := decide_eq_true c28
                    clear c28
                    obtain rfl := Option.some.inj H
                    go_enter Try.func9, Try.ntmps9
                    go_wp2_with (first | ((with_reducible refine gate_callee (f := 30) rfl ?_); refine goesL_ (some 22) rfl rfl Try.func30 (by kernel_rfl) rfl #[] rfl (by (try simp only [List.map_toArray, List.map_cons, List.map_nil]); first | done | rfl | (simp only [List.length_drop, List.length_take]; rfl)) ?_; (with_reducible refine (passbooklaw04_awake.calls k  true _ A5.out).mono ?_); rintro e w29 ⟨rfl, hb⟩; refine ⟨_, rfl, ?_⟩; have n0_ := Aside0.mk (below_step (by repeat (first | (with_reducible first | exact HB.out | apply below_alloc | apply pw_below_drewN | apply below_drew1) | exact HB.out)) hb); clear HB; have HB := n0_; clear n0_; (try clear hb); (try clear hb2); (try clear hk); (try clear hi)) | ((with_reducible refine gate_callee (f := 31) rfl ?_); refine goesL_ (some 28) rfl rfl Try.func31 (by kernel_rfl) rfl #[.int .i64 a0, .int .i64 a1, .int .i64 a2] rfl (by (try simp only [List.map_toArray, List.map_cons, List.map_nil]); first | done | rfl | (simp only [List.length_drop, List.length_take]; rfl)) ?_; (with_reducible refine (passbooklaw04_days.calls a0 a1 a2 t147 t148 t149 _ A7.out).mono ?_); rintro e w30 ⟨rfl, hb⟩; refine ⟨_, rfl, ?_⟩; have n0_ := Aside0.mk (below_step (by repeat (first | (with_reducible first | exact HB.out | apply below_alloc | apply pw_below_drewN | apply below_drew1) | exact HB.out)) hb); clear HB; have HB := n0_; clear n0_; (try clear hb); (try clear hb2); (try clear hk); (try clear hi)) | ((with_reducible refine gate_callee (f := 32) rfl ?_); refine goesL_ (some 39) rfl rfl Try.func32 (by kernel_rfl) rfl #[.int .i64 (wrap64 (Int.tmod a3 4)), .int .i64 t147, .int .i64 t148] rfl (by (try simp only [List.map_toArray, List.map_cons, List.map_nil]); first | done | rfl | (simp only [List.length_drop, List.length_take]; rfl)) ?_; (with_reducible refine (basis_Part.calls k (wrap64 (Int.tmod a3 4)) t147 t148 t150 t151 t152 _ A8.out).mono ?_); rintro e w31 ⟨rfl, hb⟩; refine ⟨_, rfl, ?_⟩; have n0_ := Aside0.mk (below_step (by repeat (first | (with_reducible first | exact HB.out | apply below_alloc | apply pw_below_drewN | apply below_drew1) | exact HB.out)) hb); clear HB; have HB := n0_; clear n0_; (try clear hb); (try clear hb2); (try clear hk); (try clear hi)) | ((with_reducible refine gate_callee (f := 32) rfl ?_); refine goesL_ (some 47) rfl rfl Try.func32 (by kernel_rfl) rfl #[.int .i64 (wrap64 (Int.tmod a3 4)), .int .i64 t148, .int .i64 t149] rfl (by (try simp only [List.map_toArray, List.map_cons, List.map_nil]); first | done | rfl | (simp only [List.length_drop, List.length_take]; rfl)) ?_; (with_reducible refine (basis_Part.calls k (wrap64 (Int.tmod a3 4)) t148 t149 t153 t154 t155 _ A9.out).mono ?_); rintro e w32 ⟨rfl, hb⟩; refine ⟨_, rfl, ?_⟩; have n0_ := Aside0.mk (below_step (by repeat (first | (with_reducible first | exact HB.out | apply below_alloc | apply pw_below_drewN | apply below_drew1) | exact HB.out)) hb); clear HB; have HB := n0_; clear n0_; (try clear hb); (try clear hb2); (try clear hk); (try clear hi)) | ((with_reducible refine gate_callee (f := 32) rfl ?_); refine goesL_ (some 55) rfl rfl Try.func32 (by kernel_rfl) rfl #[.int .i64 (wrap64 (Int.tmod a3 4)), .int .i64 t147, .int .i64 t149] rfl (by (try simp only [List.map_toArray, List.map_cons, List.map_nil]); first | done | rfl | (simp only [List.length_drop, List.length_take]; rfl)) ?_; (with_reducible refine (basis_Part.calls k (wrap64 (Int.tmod a3 4)) t147 t149 t156 t157 t158 _ A10.out).mono ?_); rintro e w33 ⟨rfl, hb⟩; refine ⟨_, rfl, ?_⟩; have n0_ := Aside0.mk (below_step (by repeat (first | (with_reducible first | exact HB.out | apply below_alloc | apply pw_below_drewN | apply below_drew1) | exact HB.out)) hb); clear HB; have HB := n0_; clear n0_; (try clear hb); (try clear hb2); (try clear hk); (try clear hi)))
                    go_ret
                    exact ⟨by first | rfl | (simp [errW_none, errW_some] <;> rfl) | (simp [*, errW_none, errW_some] <;> rfl), by repeat (first | (with_reducible first | exact HB.out | apply below_alloc | apply pw_below_drewN | apply below_drew1) | exact HB.out)⟩
                  · rw [if_neg c28] at H
                    have c28b0 : decide (t156 < t150) = false := decide_eq_false c28
                    clear c28
                    obtain rfl := Option.some.inj H
                    go_enter Try.func9, Try.ntmps9
                    go_wp2_with (first | ((with_reducible refine gate_callee (f := 30) rfl ?_); refine goesL_ (some 22) rfl rfl Try.func30 (by kernel_rfl) rfl #[] rfl (by (try simp only [List.map_toArray, List.map_cons, List.map_nil]); first | done | rfl | (simp only [List.length_drop, List.length_take]; rfl)) ?_; (with_reducible refine (passbooklaw04_awake.calls k  true _ A5.out).mono ?_); rintro e w34 ⟨rfl, hb⟩; refine ⟨_, rfl, ?_⟩; have n0_ := Aside0.mk (below_step (by repeat (first | (with_reducible first | exact HB.out | apply below_alloc | apply pw_below_drewN | apply below_drew1) | exact HB.out)) hb); clear HB; have HB := n0_; clear n0_; (try clear hb); (try clear hb2); (try clear hk); (try clear hi)) | ((with_reducible refine gate_callee (f := 31) rfl ?_); refine goesL_ (some 28) rfl rfl Try.func31 (by kernel_rfl) rfl #[.int .i64 a0, .int .i64 a1, .int .i64 a2] rfl (by (try simp only [List.map_toArray, List.map_cons, List.map_nil]); first | done | rfl | (simp only [List.length_drop, List.length_take]; rfl)) ?_; (with_reducible refine (passbooklaw04_days.calls a0 a1 a2 t147 t148 t149 _ A7.out).mono ?_); rintro e w35 ⟨rfl, hb⟩; refine ⟨_, rfl, ?_⟩; have n0_ := Aside0.mk (below_step (by repeat (first | (with_reducible first | exact HB.out | apply below_alloc | apply pw_below_drewN | apply below_drew1) | exact HB.out)) hb); clear HB; have HB := n0_; clear n0_; (try clear hb); (try clear hb2); (try clear hk); (try clear hi)) | ((with_reducible refine gate_callee (f := 32) rfl ?_); refine goesL_ (some 39) rfl rfl Try.func32 (by kernel_rfl) rfl #[.int .i64 (wrap64 (Int.tmod a3 4)), .int .i64 t147, .int .i64 t148] rfl (by (try simp only [List.map_toArray, List.map_cons, List.map_nil]); first | done | rfl | (simp only [List.length_drop, List.length_take]; rfl)) ?_; (with_reducible refine (basis_Part.calls k (wrap64 (Int.tmod a3 4)) t147 t148 t150 t151 t152 _ A8.out).mono ?_); rintro e w36 ⟨rfl, hb⟩; refine ⟨_, rfl, ?_⟩; have n0_ := Aside0.mk (below_step (by repeat (first | (with_reducible first | exact HB.out | apply below_alloc | apply pw_below_drewN | apply below_drew1) | exact HB.out)) hb); clear HB; have HB := n0_; clear n0_; (try clear hb); (try clear hb2); (try clear hk); (try clear hi)) | ((with_reducible refine gate_callee (f := 32) rfl ?_); refine goesL_ (some 47) rfl rfl Try.func32 (by kernel_rfl) rfl #[.int .i64 (wrap64 (Int.tmod a3 4)), .int .i64 t148, .int .i64 t149] rfl (by (try simp only [List.map_toArray, List.map_cons, List.map_nil]); first | done | rfl | (simp only [List.length_drop, List.length_take]; rfl)) ?_; (with_reducible refine (basis_Part.calls k (wrap64 (Int.tmod a3 4)) t148 t149 t153 t154 t155 _ A9.out).mono ?_); rintro e w37 ⟨rfl, hb⟩; refine ⟨_, rfl, ?_⟩; have n0_ := Aside0.mk (below_step (by repeat (first | (with_reducible first | exact HB.out | apply below_alloc | apply pw_below_drewN | apply below_drew1) | exact HB.out)) hb); clear HB; have HB := n0_; clear n0_; (try clear hb); (try clear hb2); (try clear hk); (try clear hi)) | ((with_reducible refine gate_callee (f := 32) rfl ?_); refine goesL_ (some 55) rfl rfl Try.func32 (by kernel_rfl) rfl #[.int .i64 (wrap64 (Int.tmod a3 4)), .int .i64 t147, .int .i64 t149] rfl (by (try simp only [List.map_toArray, List.map_cons, List.map_nil]); first | done | rfl | (simp only [List.length_drop, List.length_take]; rfl)) ?_; (with_reducible refine (basis_Part.calls k (wrap64 (Int.tmod a3 4)) t147 t149 t156 t157 t158 _ A10.out).mono ?_); rintro e w38 ⟨rfl, hb⟩; refine ⟨_, rfl, ?_⟩; have n0_ := Aside0.mk (below_step (by repeat (first | (with_reducible first | exact HB.out | apply below_alloc | apply pw_below_drewN | apply below_drew1) | exact HB.out)) hb); clear HB; have HB := n0_; clear n0_; (try clear hb); (try clear hb2); (try clear hk); (try clear hi)))
                    go_ret
                    exact ⟨by first | rfl | (simp [errW_none, errW_some] <;> rfl) | (simp [*, errW_none, errW_some] <;> rfl), by repeat (first | (with_reducible first | exact HB.out | apply below_alloc | apply pw_below_drewN | apply below_drew1) | exact HB.out)⟩
            · rw [if_neg c15] at H
              have c15b0 : (t151 == t157) = false := beq_eq_false_iff_ne.mpr c15
              have c15b1 : (t151 != t157) = true := bne_iff_ne.mpr c15
              obtain rfl := Option.some.inj H
              go_enter Try.func9, Try.ntmps9
              go_wp2_with (first | ((with_reducible refine gate_callee (f := 30) rfl ?_); refine goesL_ (some 22) rfl rfl Try.func30 (by kernel_rfl) rfl #[] rfl (by (try simp only [List.map_toArray, List.map_cons, List.map_nil]); first | done | rfl | (simp only [List.length_drop, List.length_take]; rfl)) ?_; (with_reducible refine (passbooklaw04_awake.calls k  true _ A5.out).mono ?_); rintro e w39 ⟨rfl, hb⟩; refine ⟨_, rfl, ?_⟩; have n0_ := Aside0.mk (below_step (by repeat (first | (with_reducible first | exact HB.out | apply below_alloc | apply pw_below_drewN | apply below_drew1) | exact HB.out)) hb); clear HB; have HB := n0_; clear n0_; (try clear hb); (try clear hb2); (try clear hk); (try clear hi)) | ((with_reducible refine gate_callee (f := 31) rfl ?_); refine goesL_ (some 28) rfl rfl Try.func31 (by kernel_rfl) rfl #[.int .i64 a0, .int .i64 a1, .int .i64 a2] rfl (by (try simp only [List.map_toArray, List.map_cons, List.map_nil]); first | done | rfl | (simp only [List.length_drop, List.length_take]; rfl)) ?_; (with_reducible refine (passbooklaw04_days.calls a0 a1 a2 t147 t148 t149 _ A7.out).mono ?_); rintro e w40 ⟨rfl, hb⟩; refine ⟨_, rfl, ?_⟩; have n0_ := Aside0.mk (below_step (by repeat (first | (with_reducible first | exact HB.out | apply below_alloc | apply pw_below_drewN | apply below_drew1) | exact HB.out)) hb); clear HB; have HB := n0_; clear n0_; (try clear hb); (try clear hb2); (try clear hk); (try clear hi)) | ((with_reducible refine gate_callee (f := 32) rfl ?_); refine goesL_ (some 39) rfl rfl Try.func32 (by kernel_rfl) rfl #[.int .i64 (wrap64 (Int.tmod a3 4)), .int .i64 t147, .int .i64 t148] rfl (by (try simp only [List.map_toArray, List.map_cons, List.map_nil]); first | done | rfl | (simp only [List.length_drop, List.length_take]; rfl)) ?_; (with_reducible refine (basis_Part.calls k (wrap64 (Int.tmod a3 4)) t147 t148 t150 t151 t152 _ A8.out).mono ?_); rintro e w41 ⟨rfl, hb⟩; refine ⟨_, rfl, ?_⟩; have n0_ := Aside0.mk (below_step (by repeat (first | (with_reducible first | exact HB.out | apply below_alloc | apply pw_below_drewN | apply below_drew1) | exact HB.out)) hb); clear HB; have HB := n0_; clear n0_; (try clear hb); (try clear hb2); (try clear hk); (try clear hi)) | ((with_reducible refine gate_callee (f := 32) rfl ?_); refine goesL_ (some 47) rfl rfl Try.func32 (by kernel_rfl) rfl #[.int .i64 (wrap64 (Int.tmod a3 4)), .int .i64 t148, .int .i64 t149] rfl (by (try simp only [List.map_toArray, List.map_cons, List.map_nil]); first | done | rfl | (simp only [List.length_drop, List.length_take]; rfl)) ?_; (with_reducible refine (basis_Part.calls k (wrap64 (Int.tmod a3 4)) t148 t149 t153 t154 t155 _ A9.out).mono ?_); rintro e w42 ⟨rfl, hb⟩; refine ⟨_, rfl, ?_⟩; have n0_ := Aside0.mk (below_step (by repeat (first | (with_reducible first | exact HB.out | apply below_alloc | apply pw_below_drewN | apply below_drew1) | exact HB.out)) hb); clear HB; have HB := n0_; clear n0_; (try clear hb); (try clear hb2); (try clear hk); (try clear hi)) | ((with_reducible refine gate_callee (f := 32) rfl ?_); refine goesL_ (some 55) rfl rfl Try.func32 (by kernel_rfl) rfl #[.int .i64 (wrap64 (Int.tmod a3 4)), .int .i64 t147, .int .i64 t149] rfl (by (try simp only [List.map_toArray, List.map_cons, List.map_nil]); first | done | rfl | (simp only [List.length_drop, List.length_take]; rfl)) ?_; (with_reducible refine (basis_Part.calls k (wrap64 (Int.tmod a3 4)) t147 t149 t156 t157 t158 _ A10.out).mono ?_); rintro e w43 ⟨rfl, hb⟩; refine ⟨_, rfl, ?_⟩; have n0_ := Aside0.mk (below_step (by repeat (first | (with_reducible first | exact HB.out | apply below_alloc | apply pw_below_drewN | apply below_drew1) | exact HB.out)) hb); clear HB; have HB := n0_; clear n0_; (try clear hb); (try clear hb2); (try clear hk); (try clear hi)))
              go_ret
              exact ⟨by first | rfl | (simp [errW_none, errW_some] <;> rfl) | (simp [*, errW_none, errW_some] <;> rfl), by repeat (first | (with_reducible first | exact HB.out | apply below_alloc | apply pw_below_drewN | apply below_drew1) | exact HB.out)⟩
          · rw [if_neg c14] at H
            have c14b0 : (t151 == t154) = false := beq_eq_false_iff_ne.mpr c14
            have c14b1 : (t151 != t154) = true := bne_iff_ne.mpr c14
            obtain rfl := Option.some.inj H
            go_enter Try.func9, Try.ntmps9
            go_wp2_with (first | ((with_reducible refine gate_callee (f := 30) rfl ?_); refine goesL_ (some 22) rfl rfl Try.func30 (by kernel_rfl) rfl #[] rfl (by (try simp only [List.map_toArray, List.map_cons, List.map_nil]); first | done | rfl | (simp only [List.length_drop, List.length_take]; rfl)) ?_; (with_reducible refine (passbooklaw04_awake.calls k  true _ A5.out).mono ?_); rintro e w44 ⟨rfl, hb⟩; refine ⟨_, rfl, ?_⟩; have n0_ := Aside0.mk (below_step (by repeat (first | (with_reducible first | exact HB.out | apply below_alloc | apply pw_below_drewN | apply below_drew1) | exact HB.out)) hb); clear HB; have HB := n0_; clear n0_; (try clear hb); (try clear hb2); (try clear hk); (try clear hi)) | ((with_reducible refine gate_callee (f := 31) rfl ?_); refine goesL_ (some 28) rfl rfl Try.func31 (by kernel_rfl) rfl #[.int .i64 a0, .int .i64 a1, .int .i64 a2] rfl (by (try simp only [List.map_toArray, List.map_cons, List.map_nil]); first | done | rfl | (simp only [List.length_drop, List.length_take]; rfl)) ?_; (with_reducible refine (passbooklaw04_days.calls a0 a1 a2 t147 t148 t149 _ A7.out).mono ?_); rintro e w45 ⟨rfl, hb⟩; refine ⟨_, rfl, ?_⟩; have n0_ := Aside0.mk (below_step (by repeat (first | (with_reducible first | exact HB.out | apply below_alloc | apply pw_below_drewN | apply below_drew1) | exact HB.out)) hb); clear HB; have HB := n0_; clear n0_; (try clear hb); (try clear hb2); (try clear hk); (try clear hi)) | ((with_reducible refine gate_callee (f := 32) rfl ?_); refine goesL_ (some 39) rfl rfl Try.func32 (by kernel_rfl) rfl #[.int .i64 (wrap64 (Int.tmod a3 4)), .int .i64 t147, .int .i64 t148] rfl (by (try simp only [List.map_toArray, List.map_cons, List.map_nil]); first | done | rfl | (simp only [List.length_drop, List.length_take]; rfl)) ?_; (with_reducible refine (basis_Part.calls k (wrap64 (Int.tmod a3 4)) t147 t148 t150 t151 t152 _ A8.out).mono ?_); rintro e w46 ⟨rfl, hb⟩; refine ⟨_, rfl, ?_⟩; have n0_ := Aside0.mk (below_step (by repeat (first | (with_reducible first | exact HB.out | apply below_alloc | apply pw_below_drewN | apply below_drew1) | exact HB.out)) hb); clear HB; have HB := n0_; clear n0_; (try clear hb); (try clear hb2); (try clear hk); (try clear hi)) | ((with_reducible refine gate_callee (f := 32) rfl ?_); refine goesL_ (some 47) rfl rfl Try.func32 (by kernel_rfl) rfl #[.int .i64 (wrap64 (Int.tmod a3 4)), .int .i64 t148, .int .i64 t149] rfl (by (try simp only [List.map_toArray, List.map_cons, List.map_nil]); first | done | rfl | (simp only [List.length_drop, List.length_take]; rfl)) ?_; (with_reducible refine (basis_Part.calls k (wrap64 (Int.tmod a3 4)) t148 t149 t153 t154 t155 _ A9.out).mono ?_); rintro e w47 ⟨rfl, hb⟩; refine ⟨_, rfl, ?_⟩; have n0_ := Aside0.mk (below_step (by repeat (first | (with_reducible first | exact HB.out | apply below_alloc | apply pw_below_drewN | apply below_drew1) | exact HB.out)) hb); clear HB; have HB := n0_; clear n0_; (try clear hb); (try clear hb2); (try clear hk); (try clear hi)) | ((with_reducible refine gate_callee (f := 32) rfl ?_); refine goesL_ (some 55) rfl rfl Try.func32 (by kernel_rfl) rfl #[.int .i64 (wrap64 (Int.tmod a3 4)), .int .i64 t147, .int .i64 t149] rfl (by (try simp only [List.map_toArray, List.map_cons, List.map_nil]); first | done | rfl | (simp only [List.length_drop, List.length_take]; rfl)) ?_; (with_reducible refine (basis_Part.calls k (wrap64 (Int.tmod a3 4)) t147 t149 t156 t157 t158 _ A10.out).mono ?_); rintro e w48 ⟨rfl, hb⟩; refine ⟨_, rfl, ?_⟩; have n0_ := Aside0.mk (below_step (by repeat (first | (with_reducible first | exact HB.out | apply below_alloc | apply pw_below_drewN | apply below_drew1) | exact HB.out)) hb); clear HB; have HB := n0_; clear n0_; (try clear hb); (try clear hb2); (try clear hk); (try clear hi)))
            go_ret
            exact ⟨by first | rfl | (simp [errW_none, errW_some] <;> rfl) | (simp [*, errW_none, errW_some] <;> rfl), by repeat (first | (with_reducible first | exact HB.out | apply below_alloc | apply pw_below_drewN | apply below_drew1) | exact HB.out)⟩
        · rw [if_neg c13] at H
          have c13b0 : (t158 == 0) = false := beq_eq_false_iff_ne.mpr c13
          have c13b1 : (t158 != 0) = true := bne_iff_ne.mpr c13
          obtain rfl := Option.some.inj H
          go_enter Try.func9, Try.ntmps9
          go_wp2_with (first | ((with_reducible refine gate_callee (f := 30) rfl ?_); refine goesL_ (some 22) rfl rfl Try.func30 (by kernel_rfl) rfl #[] rfl (by (try simp only [List.map_toArray, List.map_cons, List.map_nil]); first | done | rfl | (simp only [List.length_drop, List.length_take]; rfl)) ?_; (with_reducible refine (passbooklaw04_awake.calls k  true _ A5.out).mono ?_); rintro e w49 ⟨rfl, hb⟩; refine ⟨_, rfl, ?_⟩; have n0_ := Aside0.mk (below_step (by repeat (first | (with_reducible first | exact HB.out | apply below_alloc | apply pw_below_drewN | apply below_drew1) | exact HB.out)) hb); clear HB; have HB := n0_; clear n0_; (try clear hb); (try clear hb2); (try clear hk); (try clear hi)) | ((with_reducible refine gate_callee (f := 31) rfl ?_); refine goesL_ (some 28) rfl rfl Try.func31 (by kernel_rfl) rfl #[.int .i64 a0, .int .i64 a1, .int .i64 a2] rfl (by (try simp only [List.map_toArray, List.map_cons, List.map_nil]); first | done | rfl | (simp only [List.length_drop, List.length_take]; rfl)) ?_; (with_reducible refine (passbooklaw04_days.calls a0 a1 a2 t147 t148 t149 _ A7.out).mono ?_); rintro e w50 ⟨rfl, hb⟩; refine ⟨_, rfl, ?_⟩; have n0_ := Aside0.mk (below_step (by repeat (first | (with_reducible first | exact HB.out | apply below_alloc | apply pw_below_drewN | apply below_drew1) | exact HB.out)) hb); clear HB; have HB := n0_; clear n0_; (try clear hb); (try clear hb2); (try clear hk); (try clear hi)) | ((with_reducible refine gate_callee (f := 32) rfl ?_); refine goesL_ (some 39) rfl rfl Try.func32 (by kernel_rfl) rfl #[.int .i64 (wrap64 (Int.tmod a3 4)), .int .i64 t147, .int .i64 t148] rfl (by (try simp only [List.map_toArray, List.map_cons, List.map_nil]); first | done | rfl | (simp only [List.length_drop, List.length_take]; rfl)) ?_; (with_reducible refine (basis_Part.calls k (wrap64 (Int.tmod a3 4)) t147 t148 t150 t151 t152 _ A8.out).mono ?_); rintro e w51 ⟨rfl, hb⟩; refine ⟨_, rfl, ?_⟩; have n0_ := Aside0.mk (below_step (by repeat (first | (with_reducible first | exact HB.out | apply below_alloc | apply pw_below_drewN | apply below_drew1) | exact HB.out)) hb); clear HB; have HB := n0_; clear n0_; (try clear hb); (try clear hb2); (try clear hk); (try clear hi)) | ((with_reducible refine gate_callee (f := 32) rfl ?_); refine goesL_ (some 47) rfl rfl Try.func32 (by kernel_rfl) rfl #[.int .i64 (wrap64 (Int.tmod a3 4)), .int .i64 t148, .int .i64 t149] rfl (by (try simp only [List.map_toArray, List.map_cons, List.map_nil]); first | done | rfl | (simp only [List.length_drop, List.length_take]; rfl)) ?_; (with_reducible refine (basis_Part.calls k (wrap64 (Int.tmod a3 4)) t148 t149 t153 t154 t155 _ A9.out).mono ?_); rintro e w52 ⟨rfl, hb⟩; refine ⟨_, rfl, ?_⟩; have n0_ := Aside0.mk (below_step (by repeat (first | (with_reducible first | exact HB.out | apply below_alloc | apply pw_below_drewN | apply below_drew1) | exact HB.out)) hb); clear HB; have HB := n0_; clear n0_; (try clear hb); (try clear hb2); (try clear hk); (try clear hi)) | ((with_reducible refine gate_callee (f := 32) rfl ?_); refine goesL_ (some 55) rfl rfl Try.func32 (by kernel_rfl) rfl #[.int .i64 (wrap64 (Int.tmod a3 4)), .int .i64 t147, .int .i64 t149] rfl (by (try simp only [List.map_toArray, List.map_cons, List.map_nil]); first | done | rfl | (simp only [List.length_drop, List.length_take]; rfl)) ?_; (with_reducible refine (basis_Part.calls k (wrap64 (Int.tmod a3 4)) t147 t149 t156 t157 t158 _ A10.out).mono ?_); rintro e w53 ⟨rfl, hb⟩; refine ⟨_, rfl, ?_⟩; have n0_ := Aside0.mk (below_step (by repeat (first | (with_reducible first | exact HB.out | apply below_alloc | apply pw_below_drewN | apply below_drew1) | exact HB.out)) hb); clear HB; have HB := n0_; clear n0_; (try clear hb); (try clear hb2); (try clear hk); (try clear hi)))
          go_ret
          exact ⟨by first | rfl | (simp [errW_none, errW_some] <;> rfl) | (simp [*, errW_none, errW_some] <;> rfl), by repeat (first | (with_reducible first | exact HB.out | apply below_alloc | apply pw_below_drewN | apply below_drew1) | exact HB.out)⟩
      · rw [if_neg c12] at H
        have c12b0 : (t155 == 0) = false := beq_eq_false_iff_ne.mpr c12
        have c12b1 : (t155 != 0) = true := bne_iff_ne.mpr c12
        obtain rfl := Option.some.inj H
        go_enter Try.func9, Try.ntmps9
        go_wp2_with (first | ((with_reducible refine gate_callee (f := 30) rfl ?_); refine goesL_ (some 22) rfl rfl Try.func30 (by kernel_rfl) rfl #[] rfl (by (try simp only [List.map_toArray, List.map_cons, List.map_nil]); first | done | rfl | (simp only [List.length_drop, List.length_take]; rfl)) ?_; (with_reducible refine (passbooklaw04_awake.calls k  true _ A5.out).mono ?_); rintro e w54 ⟨rfl, hb⟩; refine ⟨_, rfl, ?_⟩; have n0_ := Aside0.mk (below_step (by repeat (first | (with_reducible first | exact HB.out | apply below_alloc | apply pw_below_drewN | apply below_drew1) | exact HB.out)) hb); clear HB; have HB := n0_; clear n0_; (try clear hb); (try clear hb2); (try clear hk); (try clear hi)) | ((with_reducible refine gate_callee (f := 31) rfl ?_); refine goesL_ (some 28) rfl rfl Try.func31 (by kernel_rfl) rfl #[.int .i64 a0, .int .i64 a1, .int .i64 a2] rfl (by (try simp only [List.map_toArray, List.map_cons, List.map_nil]); first | done | rfl | (simp only [List.length_drop, List.length_take]; rfl)) ?_; (with_reducible refine (passbooklaw04_days.calls a0 a1 a2 t147 t148 t149 _ A7.out).mono ?_); rintro e w55 ⟨rfl, hb⟩; refine ⟨_, rfl, ?_⟩; have n0_ := Aside0.mk (below_step (by repeat (first | (with_reducible first | exact HB.out | apply below_alloc | apply pw_below_drewN | apply below_drew1) | exact HB.out)) hb); clear HB; have HB := n0_; clear n0_; (try clear hb); (try clear hb2); (try clear hk); (try clear hi)) | ((with_reducible refine gate_callee (f := 32) rfl ?_); refine goesL_ (some 39) rfl rfl Try.func32 (by kernel_rfl) rfl #[.int .i64 (wrap64 (Int.tmod a3 4)), .int .i64 t147, .int .i64 t148] rfl (by (try simp only [List.map_toArray, List.map_cons, List.map_nil]); first | done | rfl | (simp only [List.length_drop, List.length_take]; rfl)) ?_; (with_reducible refine (basis_Part.calls k (wrap64 (Int.tmod a3 4)) t147 t148 t150 t151 t152 _ A8.out).mono ?_); rintro e w56 ⟨rfl, hb⟩; refine ⟨_, rfl, ?_⟩; have n0_ := Aside0.mk (below_step (by repeat (first | (with_reducible first | exact HB.out | apply below_alloc | apply pw_below_drewN | apply below_drew1) | exact HB.out)) hb); clear HB; have HB := n0_; clear n0_; (try clear hb); (try clear hb2); (try clear hk); (try clear hi)) | ((with_reducible refine gate_callee (f := 32) rfl ?_); refine goesL_ (some 47) rfl rfl Try.func32 (by kernel_rfl) rfl #[.int .i64 (wrap64 (Int.tmod a3 4)), .int .i64 t148, .int .i64 t149] rfl (by (try simp only [List.map_toArray, List.map_cons, List.map_nil]); first | done | rfl | (simp only [List.length_drop, List.length_take]; rfl)) ?_; (with_reducible refine (basis_Part.calls k (wrap64 (Int.tmod a3 4)) t148 t149 t153 t154 t155 _ A9.out).mono ?_); rintro e w57 ⟨rfl, hb⟩; refine ⟨_, rfl, ?_⟩; have n0_ := Aside0.mk (below_step (by repeat (first | (with_reducible first | exact HB.out | apply below_alloc | apply pw_below_drewN | apply below_drew1) | exact HB.out)) hb); clear HB; have HB := n0_; clear n0_; (try clear hb); (try clear hb2); (try clear hk); (try clear hi)) | ((with_reducible refine gate_callee (f := 32) rfl ?_); refine goesL_ (some 55) rfl rfl Try.func32 (by kernel_rfl) rfl #[.int .i64 (wrap64 (Int.tmod a3 4)), .int .i64 t147, .int .i64 t149] rfl (by (try simp only [List.map_toArray, List.map_cons, List.map_nil]); first | done | rfl | (simp only [List.length_drop, List.length_take]; rfl)) ?_; (with_reducible refine (basis_Part.calls k (wrap64 (Int.tmod a3 4)) t147 t149 t156 t157 t158 _ A10.out).mono ?_); rintro e w58 ⟨rfl, hb⟩; refine ⟨_, rfl, ?_⟩; have n0_ := Aside0.mk (below_step (by repeat (first | (with_reducible first | exact HB.out | apply below_alloc | apply pw_below_drewN | apply below_drew1) | exact HB.out)) hb); clear HB; have HB := n0_; clear n0_; (try clear hb); (try clear hb2); (try clear hk); (try clear hi)))
        go_ret
        exact ⟨by first | rfl | (simp [errW_none, errW_some] <;> rfl) | (simp [*, errW_none, errW_some] <;> rfl), by repeat (first | (with_reducible first | exact HB.out | apply below_alloc | apply pw_below_drewN | apply below_drew1) | exact HB.out)⟩
    · rw [if_neg c11] at H
      have c11b0 : (t152 == 0) = false := beq_eq_false_iff_ne.mpr c11
      have c11b1 : (t152 != 0) = true := bne_iff_ne.mpr c11
      obtain rfl := Option.some.inj H
      go_enter Try.func9, Try.ntmps9
      go_wp2_with (first | ((with_reducible refine gate_callee (f := 30) rfl ?_); refine goesL_ (some 22) rfl rfl Try.func30 (by kernel_rfl) rfl #[] rfl (by (try simp only [List.map_toArray, List.map_cons, List.map_nil]); first | done | rfl | (simp only [List.length_drop, List.length_take]; rfl)) ?_; (with_reducible refine (passbooklaw04_awake.calls k  true _ A5.out).mono ?_); rintro e w59 ⟨rfl, hb⟩; refine ⟨_, rfl, ?_⟩; have n0_ := Aside0.mk (below_step (by repeat (first | (with_reducible first | exact HB.out | apply below_alloc | apply pw_below_drewN | apply below_drew1) | exact HB.out)) hb); clear HB; have HB := n0_; clear n0_; (try clear hb); (try clear hb2); (try clear hk); (try clear hi)) | ((with_reducible refine gate_callee (f := 31) rfl ?_); refine goesL_ (some 28) rfl rfl Try.func31 (by kernel_rfl) rfl #[.int .i64 a0, .int .i64 a1, .int .i64 a2] rfl (by (try simp only [List.map_toArray, List.map_cons, List.map_nil]); first | done | rfl | (simp only [List.length_drop, List.length_take]; rfl)) ?_; (with_reducible refine (passbooklaw04_days.calls a0 a1 a2 t147 t148 t149 _ A7.out).mono ?_); rintro e w60 ⟨rfl, hb⟩; refine ⟨_, rfl, ?_⟩; have n0_ := Aside0.mk (below_step (by repeat (first | (with_reducible first | exact HB.out | apply below_alloc | apply pw_below_drewN | apply below_drew1) | exact HB.out)) hb); clear HB; have HB := n0_; clear n0_; (try clear hb); (try clear hb2); (try clear hk); (try clear hi)) | ((with_reducible refine gate_callee (f := 32) rfl ?_); refine goesL_ (some 39) rfl rfl Try.func32 (by kernel_rfl) rfl #[.int .i64 (wrap64 (Int.tmod a3 4)), .int .i64 t147, .int .i64 t148] rfl (by (try simp only [List.map_toArray, List.map_cons, List.map_nil]); first | done | rfl | (simp only [List.length_drop, List.length_take]; rfl)) ?_; (with_reducible refine (basis_Part.calls k (wrap64 (Int.tmod a3 4)) t147 t148 t150 t151 t152 _ A8.out).mono ?_); rintro e w61 ⟨rfl, hb⟩; refine ⟨_, rfl, ?_⟩; have n0_ := Aside0.mk (below_step (by repeat (first | (with_reducible first | exact HB.out | apply below_alloc | apply pw_below_drewN | apply below_drew1) | exact HB.out)) hb); clear HB; have HB := n0_; clear n0_; (try clear hb); (try clear hb2); (try clear hk); (try clear hi)) | ((with_reducible refine gate_callee (f := 32) rfl ?_); refine goesL_ (some 47) rfl rfl Try.func32 (by kernel_rfl) rfl #[.int .i64 (wrap64 (Int.tmod a3 4)), .int .i64 t148, .int .i64 t149] rfl (by (try simp only [List.map_toArray, List.map_cons, List.map_nil]); first | done | rfl | (simp only [List.length_drop, List.length_take]; rfl)) ?_; (with_reducible refine (basis_Part.calls k (wrap64 (Int.tmod a3 4)) t148 t149 t153 t154 t155 _ A9.out).mono ?_); rintro e w62 ⟨rfl, hb⟩; refine ⟨_, rfl, ?_⟩; have n0_ := Aside0.mk (below_step (by repeat (first | (with_reducible first | exact HB.out | apply below_alloc | apply pw_below_drewN | apply below_drew1) | exact HB.out)) hb); clear HB; have HB := n0_; clear n0_; (try clear hb); (try clear hb2); (try clear hk); (try clear hi)) | ((with_reducible refine gate_callee (f := 32) rfl ?_); refine goesL_ (some 55) rfl rfl Try.func32 (by kernel_rfl) rfl #[.int .i64 (wrap64 (Int.tmod a3 4)), .int .i64 t147, .int .i64 t149] rfl (by (try simp only [List.map_toArray, List.map_cons, List.map_nil]); first | done | rfl | (simp only [List.length_drop, List.length_take]; rfl)) ?_; (with_reducible refine (basis_Part.calls k (wrap64 (Int.tmod a3 4)) t147 t149 t156 t157 t158 _ A10.out).mono ?_); rintro e w63 ⟨rfl, hb⟩; refine ⟨_, rfl, ?_⟩; have n0_ := Aside0.mk (below_step (by repeat (first | (with_reducible first | exact HB.out | apply below_alloc | apply pw_below_drewN | apply below_drew1) | exact HB.out)) hb); clear HB; have HB := n0_; clear n0_; (try clear hb); (try clear hb2); (try clear hk); (try clear hi)))
      go_ret
      exact ⟨by first | rfl | (simp [errW_none, errW_some] <;> rfl) | (simp [*, errW_none, errW_some] <;> rfl), by repeat (first | (with_reducible first | exact HB.out | apply below_alloc | apply pw_below_drewN | apply below_drew1) | exact HB.out)⟩
  · replace c6 := Bool.eq_false_iff.mpr c6
    subst c6
    have H1 : (some false) = some r := by rw [if_neg (show ¬ (false = true) by decide)] at H; exact H
    clear H
    have H := H1
    clear H1
    obtain rfl := Option.some.inj H
    go_enter Try.func9, Try.ntmps9
    go_wp2_with (first | ((with_reducible refine gate_callee (f := 30) rfl ?_); refine goesL_ (some 22) rfl rfl Try.func30 (by kernel_rfl) rfl #[] rfl (by (try simp only [List.map_toArray, List.map_cons, List.map_nil]); first | done | rfl | (simp only [List.length_drop, List.length_take]; rfl)) ?_; (with_reducible refine (passbooklaw04_awake.calls k  false _ A5.out).mono ?_); rintro e w64 ⟨rfl, hb⟩; refine ⟨_, rfl, ?_⟩; have n0_ := Aside0.mk (below_step (by repeat (first | (with_reducible first | exact HB.out | apply below_alloc | apply pw_below_drewN | apply below_drew1) | exact HB.out)) hb); clear HB; have HB := n0_; clear n0_; (try clear hb); (try clear hb2); (try clear hk); (try clear hi)))
    go_ret
    exact ⟨by first | rfl | (simp [errW_none, errW_some] <;> rfl) | (simp [*, errW_none, errW_some] <;> rfl), by repeat (first | (with_reducible first | exact HB.out | apply below_alloc | apply pw_below_drewN | apply below_drew1) | exact HB.out)⟩

/-- THE ONE PURE STATEMENT of passbooklaw04_BasisAdds: yours. -/
def passbooklaw04_BasisAdds.Pure : Prop := ∀ (a0 : Int) (a1 : Int) (a2 : Int) (a3 : Int), (Lit.int .i64 a0).wf = true → (Lit.int .i64 a1).wf = true → (Lit.int .i64 a2).wf = true → (Lit.int .u8 a3).wf = true → ∃ k, passbooklaw04_BasisAdds.f k a0 a1 a2 a3 = some true
theorem passbooklaw04_BasisAdds.walk (P : passbooklaw04_BasisAdds.Pure) (a0 : Int) (a1 : Int) (a2 : Int) (a3 : Int) (w : World) (w0 : (Lit.int .i64 a0).wf = true) (w1 : (Lit.int .i64 a1).wf = true) (w2 : (Lit.int .i64 a2).wf = true) (w3 : (Lit.int .u8 a3).wf = true) :
    Calls Try.prog 9 #[.int .i64 a0, .int .i64 a1, .int .i64 a2, .int .u8 a3] w fun e w' => e = .returned (.bool true) ∧ Below w.heap.size w w' := by
  obtain ⟨k, h⟩ := P a0 a1 a2 a3 w0 w1 w2 w3
  refine (passbooklaw04_BasisAdds.calls k a0 a1 a2 a3 true w h).mono ?_
  rintro e w' ⟨rfl, hd⟩
  exact ⟨rfl, hd⟩

end Go.Proofs.Ytemijfjchoimpaa.PBasisAdds

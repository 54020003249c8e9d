-- PRINTED BY print.sh 35421559b90ae4d0a3588c463048766b98c2df88dd9212a6774a882060cdf62d: not written by this session
import Derived.Test.YtemijfjchoimpaaPBasisPartsx0
import Derived.Test.YtemijfjchoimpaaPBasisPartsx2
namespace Go.Proofs.Ytemijfjchoimpaa.PBasisParts
open Go.RowKit Go.Proofs.YtemijfjchoimpaaW.PrintWords Go.Proofs.YtemijfjchoimpaaW.PrintLast Go.Proofs.YtemijfjchoimpaaW.PrintMore
attribute [local go_sem] max2_int min2_int max_two min_two max_three min_three max_four min_four   -- for this text's walks alone
set_option linter.unusedVariables false
set_option linter.unusedSimpArgs false

/-! ### passbookref03_Civil: function 25 -/
mutual
def passbookref03_Civil.l0 : Nat → Int → Int → Option (Int × Int × Int)
  | 0, _, _ => none
  | k + 1, x0, x5 => (passbookref03_Year.f x5).bind fun t150 => (if x0 ≥ t150 then ((passbookref03_Year.f x5).bind fun t151 => (passbookref03_Civil.l0 k (wrap64 (x0 - t151)) (wrap64 (x5 + 1)))) else (passbookref03_Civil.l1 k x0 x5 1))
def passbookref03_Civil.l1 : Nat → Int → Int → Int → Option (Int × Int × Int)
  | 0, _, _, _ => none
  | k + 1, x0, x5, x6 => (passbookref03_Length.f k x5 x6).bind fun t152 => (if x0 ≥ t152 then ((passbookref03_Length.f k x5 x6).bind fun t153 => (passbookref03_Civil.l1 k (wrap64 (x0 - t153)) x5 (wrap64 (x6 + 1)))) else (some (x5, x6, wrap64 (x0 + 1))))
end
def passbookref03_Civil.f (k : Nat) (a0 : Int) : Option (Int × Int × Int) := passbookref03_Civil.l0 k (Int.tmod (wrap64 (a0 - 1)) 146097) (wrap64 (1 + (wrap64 (400 * (wrap64 (Int.tdiv (wrap64 (a0 - 1)) 146097))))))
theorem passbookref03_Civil.mono_l : ∀ k, (∀ y0 y1, LeO (passbookref03_Civil.l0 k y0 y1) (passbookref03_Civil.l0 (k + 1) y0 y1)) ∧ (∀ y0 y1 y2, LeO (passbookref03_Civil.l1 k y0 y1 y2) (passbookref03_Civil.l1 (k + 1) y0 y1 y2))
  | 0 => ⟨fun _ _ r h => by simp [passbookref03_Civil.l0] at h, fun _ _ _ r h => by simp [passbookref03_Civil.l1] at h⟩
  | k + 1 => by
    obtain ⟨ih0, ih1⟩ := passbookref03_Civil.mono_l k
    refine ⟨?_, ?_⟩
    · intro y0 y1
      unfold passbookref03_Civil.l0
      repeat' first
      | (with_reducible exact ih0 _ _)
      | (with_reducible exact ih1 _ _ _)
      | (with_reducible exact passbookref03_Length.mono _ _ _)
      | (with_reducible exact LeO.refl _)
      | (with_reducible exact LeO.none _)
      | (with_reducible refine LeO.ite ?_ ?_)
      | (with_reducible refine LeO.bind ?_ (fun _ => ?_))
      | exact ih0 _ _
      | exact ih1 _ _ _
      | exact passbookref03_Length.mono _ _ _
      | exact LeO.none _
      | refine LeO.ite ?_ ?_
      | refine LeO.bind ?_ (fun _ => ?_)
    · intro y0 y1 y2
      unfold passbookref03_Civil.l1
      repeat' first
      | (with_reducible exact ih0 _ _)
      | (with_reducible exact ih1 _ _ _)
      | (with_reducible exact passbookref03_Length.mono _ _ _)
      | (with_reducible exact LeO.refl _)
      | (with_reducible exact LeO.none _)
      | (with_reducible refine LeO.ite ?_ ?_)
      | (with_reducible refine LeO.bind ?_ (fun _ => ?_))
      | exact ih0 _ _
      | exact ih1 _ _ _
      | exact passbookref03_Length.mono _ _ _
      | exact LeO.none _
      | refine LeO.ite ?_ ?_
      | refine LeO.bind ?_ (fun _ => ?_)
theorem passbookref03_Civil.mono : ∀ a0 k, LeO (passbookref03_Civil.f k a0) (passbookref03_Civil.f (k + 1) a0) := by
  intro a0 k
  obtain ⟨ih0, ih1⟩ := passbookref03_Civil.mono_l k
  unfold passbookref03_Civil.f
  repeat' first
      | (with_reducible exact ih0 _ _)
      | (with_reducible exact ih1 _ _ _)
      | (with_reducible exact passbookref03_Length.mono _ _ _)
      | (with_reducible exact LeO.refl _)
      | (with_reducible exact LeO.none _)
      | (with_reducible refine LeO.ite ?_ ?_)
      | (with_reducible refine LeO.bind ?_ (fun _ => ?_))
      | exact ih0 _ _
      | exact ih1 _ _ _
      | exact passbookref03_Length.mono _ _ _
      | exact LeO.none _
      | refine LeO.ite ?_ ?_
      | refine LeO.bind ?_ (fun _ => ?_)
set_option maxHeartbeats 8000000 in
set_option maxRecDepth 100000 in
theorem passbookref03_Civil.calls (k : Nat) (a0 : Int) (r1 : Int) (r2 : Int) (r3 : Int) (w : World) (h : passbookref03_Civil.f k a0 = some (r1, r2, r3)) :
    Calls Try.prog 25 #[.int .i64 a0] w fun e w' => e = .returned (.tuple #[.int .i64 r1, .int .i64 r2, .int .i64 r3]) ∧ Drawn0 w w' := by
  have H : (passbookref03_Civil.l0 k (Int.tmod (wrap64 (a0 - 1)) 146097) (wrap64 (1 + (wrap64 (400 * (wrap64 (Int.tdiv (wrap64 (a0 - 1)) 146097))))))) = some (r1, r2, r3) := h
  clear h
  have H' := Aside0.mk H
  clear H
  go_enter Try.func25, Try.ntmps25
  go_wp2
  go_loopg [0, 5] k (fun kq v0 v5 w' => ∃ (x0_1 : Int) (x5_1 : Int), v0 = .int .i64 x0_1 ∧ v5 = .int .i64 x5_1 ∧ Aside0 (passbookref03_Civil.l0 kq x0_1 x5_1 = some (r1, r2, r3)) ∧ Aside0 (kq ≤ k) ∧ Drawn0 w w')
  case atStart => exact ⟨(Int.tmod (wrap64 (a0 - 1)) 146097), (wrap64 (1 + (wrap64 (400 * (wrap64 (Int.tdiv (wrap64 (a0 - 1)) 146097)))))), (by first | rfl | (simp; done) | (simp [*]; done)), (by first | rfl | (simp; done) | (simp [*]; done)), H', ⟨Nat.le_refl _⟩, by repeat (first | exact Drawn0.refl _ | apply Drawn0.step)⟩
  case round =>
    clear H'
    obtain ⟨x0_1, x5_1, rfl, rfl, HA, HK1, ⟨m1, rfl⟩⟩ := hrel
    cases gk with
    | zero => exact absurd HA.out (by simp [passbookref03_Civil.l0])
    | succ k1 =>
      have H := HA.out
      clear HA
      simp only [passbookref03_Civil.l0] at H
      replace H := Option.bind_eq_some_iff.mp H
      obtain ⟨t150, A20, H⟩ := H
      replace H : (if x0_1 ≥ t150 then ((passbookref03_Year.f x5_1).bind fun t151 => (passbookref03_Civil.l0 k1 (wrap64 (x0_1 - t151)) (wrap64 (x5_1 + 1)))) else (passbookref03_Civil.l1 k1 x0_1 x5_1 1)) = some (r1, r2, r3) := H
      have A2 := Aside0.mk A20
      clear A20
      by_cases c3 : x0_1 ≥ t150
      · rw [if_pos c3] at H
        have c3b0 : decide (t150 ≤ x0_1) = true := decide_eq_true c3
        clear c3
        replace H := Option.bind_eq_some_iff.mp H
        obtain ⟨t151, A40, H⟩ := H
        replace H : (passbookref03_Civil.l0 k1 (wrap64 (x0_1 - t151)) (wrap64 (x5_1 + 1))) = some (r1, r2, r3) := H
        have A4 := Aside0.mk A40
        clear A40
        have H' := Aside0.mk H
        clear H
        go_wp2_with (first | ((with_reducible refine gate_callee (f := 44) rfl ?_); refine goesL_ (some 17) rfl rfl Try.func44 (by kernel_rfl) rfl #[.int .i64 x5_1] rfl (by (try simp only [List.map_toArray, List.map_cons, List.map_nil]); first | done | rfl | (simp only [List.length_drop, List.length_take]; rfl)) ?_; (with_reducible refine (passbookref03_Year.calls x5_1 t150 _ A2.out).mono ?_); rintro e w' ⟨rfl, ⟨nd, rfl⟩⟩; refine ⟨_, rfl, ?_⟩) | ((with_reducible refine gate_callee (f := 44) rfl ?_); refine goesL_ (some 21) rfl rfl Try.func44 (by kernel_rfl) rfl #[.int .i64 x5_1] rfl (by (try simp only [List.map_toArray, List.map_cons, List.map_nil]); first | done | rfl | (simp only [List.length_drop, List.length_take]; rfl)) ?_; (with_reducible refine (passbookref03_Year.calls x5_1 t151 _ A4.out).mono ?_); rintro e w' ⟨rfl, ⟨nd, rfl⟩⟩; refine ⟨_, rfl, ?_⟩))
        go_roundg k1
        case measure => have := HK1.out; omega
        case rel => exact ⟨(wrap64 (x0_1 - t151)), (wrap64 (x5_1 + 1)), (by first | rfl | (simp; done) | (simp [*]; done)), (by first | rfl | (simp; done) | (simp [*]; done)), H', ⟨by have := HK1.out; omega⟩, by repeat (first | exact Drawn0.refl _ | apply Drawn0.step)⟩
      · rw [if_neg c3] at H
        have c3b0 : decide (t150 ≤ x0_1) = false := decide_eq_false c3
        clear c3
        have H' := Aside0.mk H
        clear H
        go_wp2_with (first | ((with_reducible refine gate_callee (f := 44) rfl ?_); refine goesL_ (some 17) rfl rfl Try.func44 (by kernel_rfl) rfl #[.int .i64 x5_1] rfl (by (try simp only [List.map_toArray, List.map_cons, List.map_nil]); first | done | rfl | (simp only [List.length_drop, List.length_take]; rfl)) ?_; (with_reducible refine (passbookref03_Year.calls x5_1 t150 _ A2.out).mono ?_); rintro e w' ⟨rfl, ⟨nd, rfl⟩⟩; refine ⟨_, rfl, ?_⟩))
        go_loopg [0, 6] k1 (fun kq v0 v6 w' => ∃ (x0_2 : Int) (x6_2 : Int), v0 = .int .i64 x0_2 ∧ v6 = .int .i64 x6_2 ∧ Aside0 (passbookref03_Civil.l1 kq x0_2 x5_1 x6_2 = some (r1, r2, r3)) ∧ Aside0 (kq ≤ k1) ∧ Drawn0 w w')
        case atStart => exact ⟨(x0_1), (1), (by first | rfl | (simp; done) | (simp [*]; done)), (by first | rfl | (simp; done) | (simp [*]; done)), H', ⟨Nat.le_refl _⟩, by repeat (first | exact Drawn0.refl _ | apply Drawn0.step)⟩
        case round =>
          clear H'
          try clear c2
          try clear p2
          try clear c3
          try clear c3b0
          try clear c4
          obtain ⟨x0_2, x6_2, rfl, rfl, HA, HK2, ⟨m2, rfl⟩⟩ := hrel
          cases gk with
          | zero => exact absurd HA.out (by simp [passbookref03_Civil.l1])
          | succ k2 =>
            have H := HA.out
            clear HA
            simp only [passbookref03_Civil.l1] at H
            replace H := Option.bind_eq_some_iff.mp H
            obtain ⟨t152, A50, H⟩ := H
            replace H : (if x0_2 ≥ t152 then ((passbookref03_Length.f k2 x5_1 x6_2).bind fun t153 => (passbookref03_Civil.l1 k2 (wrap64 (x0_2 - t153)) x5_1 (wrap64 (x6_2 + 1)))) else (some (x5_1, x6_2, wrap64 (x0_2 + 1)))) = some (r1, r2, r3) := H
            have A5 := Aside0.mk A50
            clear A50
            by_cases c6 : x0_2 ≥ t152
            · rw [if_pos c6] at H
              have c6b0 : decide (t152 ≤ x0_2) = true := decide_eq_true c6
              clear c6
              replace H := Option.bind_eq_some_iff.mp H
              obtain ⟨t153, A70, H⟩ := H
              replace H : (passbookref03_Civil.l1 k2 (wrap64 (x0_2 - t153)) x5_1 (wrap64 (x6_2 + 1))) = some (r1, r2, r3) := H
              have A7 := Aside0.mk A70
              clear A70
              have H' := Aside0.mk H
              clear H
              go_wp2_with (first | ((with_reducible refine gate_callee (f := 26) rfl ?_); refine goesL_ (some 28) rfl rfl Try.func26 (by kernel_rfl) rfl #[.int .i64 x5_1, .int .i64 x6_2] rfl (by (try simp only [List.map_toArray, List.map_cons, List.map_nil]); first | done | rfl | (simp only [List.length_drop, List.length_take]; rfl)) ?_; (with_reducible refine (passbookref03_Length.calls k2 x5_1 x6_2 t152 _ A5.out).mono ?_); rintro e w' ⟨rfl, ⟨nd, rfl⟩⟩; refine ⟨_, rfl, ?_⟩) | ((with_reducible refine gate_callee (f := 26) rfl ?_); refine goesL_ (some 33) rfl rfl Try.func26 (by kernel_rfl) rfl #[.int .i64 x5_1, .int .i64 x6_2] rfl (by (try simp only [List.map_toArray, List.map_cons, List.map_nil]); first | done | rfl | (simp only [List.length_drop, List.length_take]; rfl)) ?_; (with_reducible refine (passbookref03_Length.calls k2 x5_1 x6_2 t153 _ A7.out).mono ?_); rintro e w' ⟨rfl, ⟨nd, rfl⟩⟩; refine ⟨_, rfl, ?_⟩))
              go_roundg k2
              case measure => have := HK1.out; have := HK2.out; omega
              case rel => exact ⟨(wrap64 (x0_2 - t153)), (wrap64 (x6_2 + 1)), (by first | rfl | (simp; done) | (simp [*]; done)), (by first | rfl | (simp; done) | (simp [*]; done)), H', ⟨by have := HK1.out; have := HK2.out; omega⟩, by repeat (first | exact Drawn0.refl _ | apply Drawn0.step)⟩
            · rw [if_neg c6] at H
              have c6b0 : decide (t152 ≤ x0_2) = false := decide_eq_false c6
              clear c6
              simp only [Option.some.injEq, Prod.mk.injEq] at H
              obtain ⟨rfl, rfl, rfl⟩ := H
              go_wp2_with (first | ((with_reducible refine gate_callee (f := 26) rfl ?_); refine goesL_ (some 28) rfl rfl Try.func26 (by kernel_rfl) rfl #[.int .i64 x5_1, .int .i64 x6_2] rfl (by (try simp only [List.map_toArray, List.map_cons, List.map_nil]); first | done | rfl | (simp only [List.length_drop, List.length_take]; rfl)) ?_; (with_reducible refine (passbookref03_Length.calls k2 x5_1 x6_2 t152 _ A5.out).mono ?_); rintro e w' ⟨rfl, ⟨nd, rfl⟩⟩; refine ⟨_, rfl, ?_⟩))
              go_ret3
              exact ⟨by first | rfl | (simp; done) | (simp [*]; done), by repeat (first | exact Drawn0.refl _ | apply Drawn0.step)⟩

/-! ### passbookref03_Number: function 41 -/
mutual
def passbookref03_Number.l0 : Nat → Int → Int → Int → Int → Int → Option (Int)
  | 0, _, _, _, _, _ => none
  | k + 1, x0, x1, x2, x7, x8 => if x8 < x0 then ((passbookref03_Year.f x8).bind fun t154 => (passbookref03_Number.l0 k x0 x1 x2 (wrap64 (x7 + t154)) (wrap64 (x8 + 1)))) else (passbookref03_Number.l1 k x0 x1 x2 x7 1)
def passbookref03_Number.l1 : Nat → Int → Int → Int → Int → Int → Option (Int)
  | 0, _, _, _, _, _ => none
  | k + 1, x0, x1, x2, x7, x9 => if x9 < x1 then ((passbookref03_Length.f k x0 x9).bind fun t155 => (passbookref03_Number.l1 k x0 x1 x2 (wrap64 (x7 + t155)) (wrap64 (x9 + 1)))) else (some (wrap64 (x7 + x2)))
end
def passbookref03_Number.f (k : Nat) (a0 : Int) (a1 : Int) (a2 : Int) : Option (Int) := passbookref03_Number.l0 k a0 a1 a2 (wrap64 (146097 * (wrap64 (Int.tdiv (wrap64 (a0 - 1)) 400)))) (wrap64 (1 + (wrap64 (400 * (wrap64 (Int.tdiv (wrap64 (a0 - 1)) 400))))))
theorem passbookref03_Number.mono_l : ∀ k, (∀ y0 y1 y2 y3 y4, LeO (passbookref03_Number.l0 k y0 y1 y2 y3 y4) (passbookref03_Number.l0 (k + 1) y0 y1 y2 y3 y4)) ∧ (∀ y0 y1 y2 y3 y4, LeO (passbookref03_Number.l1 k y0 y1 y2 y3 y4) (passbookref03_Number.l1 (k + 1) y0 y1 y2 y3 y4))
  | 0 => ⟨fun _ _ _ _ _ r h => by simp [passbookref03_Number.l0] at h, fun _ _ _ _ _ r h => by simp [passbookref03_Number.l1] at h⟩
  | k + 1 => by
    obtain ⟨ih0, ih1⟩ := passbookref03_Number.mono_l k
    refine ⟨?_, ?_⟩
    · intro y0 y1 y2 y3 y4
      unfold passbookref03_Number.l0
      repeat' first
      | (with_reducible exact ih0 _ _ _ _ _)
      | (with_reducible exact ih1 _ _ _ _ _)
      | (with_reducible exact passbookref03_Length.mono _ _ _)
      | (with_reducible exact LeO.refl _)
      | (with_reducible exact LeO.none _)
      | (with_reducible refine LeO.ite ?_ ?_)
      | (with_reducible refine LeO.bind ?_ (fun _ => ?_))
      | exact ih0 _ _ _ _ _
      | exact ih1 _ _ _ _ _
      | exact passbookref03_Length.mono _ _ _
      | exact LeO.none _
      | refine LeO.ite ?_ ?_
      | refine LeO.bind ?_ (fun _ => ?_)
    · intro y0 y1 y2 y3 y4
      unfold passbookref03_Number.l1
      repeat' first
      | (with_reducible exact ih0 _ _ _ _ _)
      | (with_reducible exact ih1 _ _ _ _ _)
      | (with_reducible exact passbookref03_Length.mono _ _ _)
      | (with_reducible exact LeO.refl _)
      | (with_reducible exact LeO.none _)
      | (with_reducible refine LeO.ite ?_ ?_)
      | (with_reducible refine LeO.bind ?_ (fun _ => ?_))
      | exact ih0 _ _ _ _ _
      | exact ih1 _ _ _ _ _
      | exact passbookref03_Length.mono _ _ _
      | exact LeO.none _
      | refine LeO.ite ?_ ?_
      | refine LeO.bind ?_ (fun _ => ?_)
theorem passbookref03_Number.mono : ∀ a0 a1 a2 k, LeO (passbookref03_Number.f k a0 a1 a2) (passbookref03_Number.f (k + 1) a0 a1 a2) := by
  intro a0 a1 a2 k
  obtain ⟨ih0, ih1⟩ := passbookref03_Number.mono_l k
  unfold passbookref03_Number.f
  repeat' first
      | (with_reducible exact ih0 _ _ _ _ _)
      | (with_reducible exact ih1 _ _ _ _ _)
      | (with_reducible exact passbookref03_Length.mono _ _ _)
      | (with_reducible exact LeO.refl _)
      | (with_reducible exact LeO.none _)
      | (with_reducible refine LeO.ite ?_ ?_)
      | (with_reducible refine LeO.bind ?_ (fun _ => ?_))
      | exact ih0 _ _ _ _ _
      | exact ih1 _ _ _ _ _
      | exact passbookref03_Length.mono _ _ _
      | exact LeO.none _
      | refine LeO.ite ?_ ?_
      | refine LeO.bind ?_ (fun _ => ?_)
set_option maxHeartbeats 8000000 in
set_option maxRecDepth 100000 in
theorem passbookref03_Number.calls (k : Nat) (a0 : Int) (a1 : Int) (a2 : Int) (r : Int) (w : World) (h : passbookref03_Number.f k a0 a1 a2 = some r) :
    Calls Try.prog 41 #[.int .i64 a0, .int .i64 a1, .int .i64 a2] w fun e w' => e = .returned (.int .i64 r) ∧ Drawn0 w w' := by
  have H : (passbookref03_Number.l0 k a0 a1 a2 (wrap64 (146097 * (wrap64 (Int.tdiv (wrap64 (a0 - 1)) 400)))) (wrap64 (1 + (wrap64 (400 * (wrap64 (Int.tdiv (wrap64 (a0 - 1)) 400))))))) = some r := h
  clear h
  have H' := Aside0.mk H
  clear H
  go_enter Try.func41, Try.ntmps41
  go_wp2
  go_loopg [7, 8] k (fun kq v7 v8 w' => ∃ (x7_1 : Int) (x8_1 : Int), v7 = .int .i64 x7_1 ∧ v8 = .int .i64 x8_1 ∧ Aside0 (passbookref03_Number.l0 kq a0 a1 a2 x7_1 x8_1 = some r) ∧ Aside0 (kq ≤ k) ∧ Drawn0 w w')
  case atStart => exact ⟨(wrap64 (146097 * (wrap64 (Int.tdiv (wrap64 (a0 - 1)) 400)))), (wrap64 (1 + (wrap64 (400 * (wrap64 (Int.tdiv (wrap64 (a0 - 1)) 400)))))), (by first | rfl | (simp; done) | (simp [*]; done)), (by first | rfl | (simp; done) | (simp [*]; done)), H', ⟨Nat.le_refl _⟩, by repeat (first | exact Drawn0.refl _ | apply Drawn0.step)⟩
  case round =>
    clear H'
    try clear p2
    obtain ⟨x7_1, x8_1, rfl, rfl, HA, HK1, ⟨m1, rfl⟩⟩ := hrel
    cases gk with
    | zero => exact absurd HA.out (by simp [passbookref03_Number.l0])
    | succ k1 =>
      have H := HA.out
      clear HA
      simp only [passbookref03_Number.l0] at H
      by_cases c4 : x8_1 < a0
      · rw [if_pos c4] at H
        have c4b0 : decide (x8_1 < a0) = true := decide_eq_true c4
        clear c4
        replace H := Option.bind_eq_some_iff.mp H
        obtain ⟨t154, A50, H⟩ := H
        replace H : (passbookref03_Number.l0 k1 a0 a1 a2 (wrap64 (x7_1 + t154)) (wrap64 (x8_1 + 1))) = some r := H
        have A5 := Aside0.mk A50
        clear A50
        have H' := Aside0.mk H
        clear H
        go_wp2_with (first | ((with_reducible refine gate_callee (f := 44) rfl ?_); refine goesL_ (some 26) rfl rfl Try.func44 (by kernel_rfl) rfl #[.int .i64 x8_1] rfl (by (try simp only [List.map_toArray, List.map_cons, List.map_nil]); first | done | rfl | (simp only [List.length_drop, List.length_take]; rfl)) ?_; (with_reducible refine (passbookref03_Year.calls x8_1 t154 _ A5.out).mono ?_); rintro e w' ⟨rfl, ⟨nd, rfl⟩⟩; refine ⟨_, rfl, ?_⟩))
        go_roundg k1
        case measure => have := HK1.out; omega
        case rel => exact ⟨(wrap64 (x7_1 + t154)), (wrap64 (x8_1 + 1)), (by first | rfl | (simp; done) | (simp [*]; done)), (by first | rfl | (simp; done) | (simp [*]; done)), H', ⟨by have := HK1.out; omega⟩, by repeat (first | exact Drawn0.refl _ | apply Drawn0.step)⟩
      · rw [if_neg c4] at H
        have c4b0 : decide (x8_1 < a0) = false := decide_eq_false c4
        clear c4
        have H' := Aside0.mk H
        clear H
        go_wp2
        go_loopg [7, 9] k1 (fun kq v7 v9 w' => ∃ (x7_2 : Int) (x9_2 : Int), v7 = .int .i64 x7_2 ∧ v9 = .int .i64 x9_2 ∧ Aside0 (passbookref03_Number.l1 kq a0 a1 a2 x7_2 x9_2 = some r) ∧ Aside0 (kq ≤ k1) ∧ Drawn0 w w')
        case atStart => exact ⟨(x7_1), (1), (by first | rfl | (simp; done) | (simp [*]; done)), (by first | rfl | (simp; done) | (simp [*]; done)), H', ⟨Nat.le_refl _⟩, by repeat (first | exact Drawn0.refl _ | apply Drawn0.step)⟩
        case round =>
          clear H'
          try clear p2
          try clear c4
          try clear c4b0
          try clear p2
          obtain ⟨x7_2, x9_2, rfl, rfl, HA, HK2, ⟨m2, rfl⟩⟩ := hrel
          cases gk with
          | zero => exact absurd HA.out (by simp [passbookref03_Number.l1])
          | succ k2 =>
            have H := HA.out
            clear HA
            simp only [passbookref03_Number.l1] at H
            by_cases c6 : x9_2 < a1
            · rw [if_pos c6] at H
              have c6b0 : decide (x9_2 < a1) = true := decide_eq_true c6
              clear c6
              replace H := Option.bind_eq_some_iff.mp H
              obtain ⟨t155, A70, H⟩ := H
              replace H : (passbookref03_Number.l1 k2 a0 a1 a2 (wrap64 (x7_2 + t155)) (wrap64 (x9_2 + 1))) = some r := H
              have A7 := Aside0.mk A70
              clear A70
              have H' := Aside0.mk H
              clear H
              go_wp2_with (first | ((with_reducible refine gate_callee (f := 26) rfl ?_); refine goesL_ (some 36) rfl rfl Try.func26 (by kernel_rfl) rfl #[.int .i64 a0, .int .i64 x9_2] rfl (by (try simp only [List.map_toArray, List.map_cons, List.map_nil]); first | done | rfl | (simp only [List.length_drop, List.length_take]; rfl)) ?_; (with_reducible refine (passbookref03_Length.calls k2 a0 x9_2 t155 _ A7.out).mono ?_); rintro e w' ⟨rfl, ⟨nd, rfl⟩⟩; refine ⟨_, rfl, ?_⟩))
              go_roundg k2
              case measure => have := HK1.out; have := HK2.out; omega
              case rel => exact ⟨(wrap64 (x7_2 + t155)), (wrap64 (x9_2 + 1)), (by first | rfl | (simp; done) | (simp [*]; done)), (by first | rfl | (simp; done) | (simp [*]; done)), H', ⟨by have := HK1.out; have := HK2.out; omega⟩, by repeat (first | exact Drawn0.refl _ | apply Drawn0.step)⟩
            · rw [if_neg c6] at H
              have c6b0 : decide (x9_2 < a1) = false := decide_eq_false c6
              clear c6
              obtain rfl := Option.some.inj H
              go_wp2
              go_ret
              exact ⟨by first | rfl | (simp; done) | (simp [*]; done), by repeat (first | exact Drawn0.refl _ | apply Drawn0.step)⟩

/-! ### passbookref04_Thirty: function 52 -/
def passbookref04_Thirty.f (k : Nat) (a0 : Int) (a1 : Int) : Option (Int) := (passbookref03_Civil.f k a0).bind fun bt156 => ((passbookref03_Civil.f k a1).bind fun bt159 => (if bt156.2.2 = 31 then (if bt159.2.2 = 31 then (some (wrap64 ((wrap64 ((wrap64 ((wrap64 (360 * bt159.1)) + (wrap64 (30 * bt159.2.1)))) + 30)) - (wrap64 ((wrap64 ((wrap64 (360 * bt156.1)) + (wrap64 (30 * bt156.2.1)))) + 30))))) else (some (wrap64 ((wrap64 ((wrap64 ((wrap64 (360 * bt159.1)) + (wrap64 (30 * bt159.2.1)))) + bt159.2.2)) - (wrap64 ((wrap64 ((wrap64 (360 * bt156.1)) + (wrap64 (30 * bt156.2.1)))) + 30)))))) else (if bt159.2.2 = 31 then (some (wrap64 ((wrap64 ((wrap64 ((wrap64 (360 * bt159.1)) + (wrap64 (30 * bt159.2.1)))) + 30)) - (wrap64 ((wrap64 ((wrap64 (360 * bt156.1)) + (wrap64 (30 * bt156.2.1)))) + bt156.2.2))))) else (some (wrap64 ((wrap64 ((wrap64 ((wrap64 (360 * bt159.1)) + (wrap64 (30 * bt159.2.1)))) + bt159.2.2)) - (wrap64 ((wrap64 ((wrap64 (360 * bt156.1)) + (wrap64 (30 * bt156.2.1)))) + bt156.2.2))))))))
theorem passbookref04_Thirty.mono : ∀ a0 a1 k, LeO (passbookref04_Thirty.f k a0 a1) (passbookref04_Thirty.f (k + 1) a0 a1) := by
  intro a0 a1 k
  unfold passbookref04_Thirty.f
  repeat' first
      | (with_reducible exact passbookref03_Civil.mono _ _)
      | (with_reducible exact LeO.refl _)
      | (with_reducible exact LeO.none _)
      | (with_reducible refine LeO.ite ?_ ?_)
      | (with_reducible refine LeO.bind ?_ (fun _ => ?_))
      | exact passbookref03_Civil.mono _ _
      | exact LeO.none _
      | refine LeO.ite ?_ ?_
      | refine LeO.bind ?_ (fun _ => ?_)
set_option maxHeartbeats 8000000 in
set_option maxRecDepth 100000 in
theorem passbookref04_Thirty.calls (k : Nat) (a0 : Int) (a1 : Int) (r : Int) (w : World) (h : passbookref04_Thirty.f k a0 a1 = some r) :
    Calls Try.prog 52 #[.int .i64 a0, .int .i64 a1] w fun e w' => e = .returned (.int .i64 r) ∧ Drawn0 w w' := by
  have H : ((passbookref03_Civil.f k a0).bind fun bt156 => ((passbookref03_Civil.f k a1).bind fun bt159 => (if bt156.2.2 = 31 then (if bt159.2.2 = 31 then (some (wrap64 ((wrap64 ((wrap64 ((wrap64 (360 * bt159.1)) + (wrap64 (30 * bt159.2.1)))) + 30)) - (wrap64 ((wrap64 ((wrap64 (360 * bt156.1)) + (wrap64 (30 * bt156.2.1)))) + 30))))) else (some (wrap64 ((wrap64 ((wrap64 ((wrap64 (360 * bt159.1)) + (wrap64 (30 * bt159.2.1)))) + bt159.2.2)) - (wrap64 ((wrap64 ((wrap64 (360 * bt156.1)) + (wrap64 (30 * bt156.2.1)))) + 30)))))) else (if bt159.2.2 = 31 then (some (wrap64 ((wrap64 ((wrap64 ((wrap64 (360 * bt159.1)) + (wrap64 (30 * bt159.2.1)))) + 30)) - (wrap64 ((wrap64 ((wrap64 (360 * bt156.1)) + (wrap64 (30 * bt156.2.1)))) + bt156.2.2))))) else (some (wrap64 ((wrap64 ((wrap64 ((wrap64 (360 * bt159.1)) + (wrap64 (30 * bt159.2.1)))) + bt159.2.2)) - (wrap64 ((wrap64 ((wrap64 (360 * bt156.1)) + (wrap64 (30 * bt156.2.1)))) + bt156.2.2))))))))) = some r := h
  clear h
  replace H := Option.bind_eq_some_iff.mp H
  obtain ⟨⟨t156, t157, t158⟩, A30, H⟩ := H
  replace H : ((passbookref03_Civil.f k a1).bind fun bt159 => (if t158 = 31 then (if bt159.2.2 = 31 then (some (wrap64 ((wrap64 ((wrap64 ((wrap64 (360 * bt159.1)) + (wrap64 (30 * bt159.2.1)))) + 30)) - (wrap64 ((wrap64 ((wrap64 (360 * t156)) + (wrap64 (30 * t157)))) + 30))))) else (some (wrap64 ((wrap64 ((wrap64 ((wrap64 (360 * bt159.1)) + (wrap64 (30 * bt159.2.1)))) + bt159.2.2)) - (wrap64 ((wrap64 ((wrap64 (360 * t156)) + (wrap64 (30 * t157)))) + 30)))))) else (if bt159.2.2 = 31 then (some (wrap64 ((wrap64 ((wrap64 ((wrap64 (360 * bt159.1)) + (wrap64 (30 * bt159.2.1)))) + 30)) - (wrap64 ((wrap64 ((wrap64 (360 * t156)) + (wrap64 (30 * t157)))) + t158))))) else (some (wrap64 ((wrap64 ((wrap64 ((wrap64 (360 * bt159.1)) + (wrap64 (30 * bt159.2.1)))) + bt159.2.2)) - (wrap64 ((wrap64 ((wrap64 (360 * t156)) + (wrap64 (30 * t157)))) + t158)))))))) = some r := H
  have A3 := Aside0.mk A30
  clear A30
  replace H := Option.bind_eq_some_iff.mp H
  obtain ⟨⟨t159, t160, t161⟩, A40, H⟩ := H
  replace H : (if t158 = 31 then (if t161 = 31 then (some (wrap64 ((wrap64 ((wrap64 ((wrap64 (360 * t159)) + (wrap64 (30 * t160)))) + 30)) - (wrap64 ((wrap64 ((wrap64 (360 * t156)) + (wrap64 (30 * t157)))) + 30))))) else (some (wrap64 ((wrap64 ((wrap64 ((wrap64 (360 * t159)) + (wrap64 (30 * t160)))) + t161)) - (wrap64 ((wrap64 ((wrap64 (360 * t156)) + (wrap64 (30 * t157)))) + 30)))))) else (if t161 = 31 then (some (wrap64 ((wrap64 ((wrap64 ((wrap64 (360 * t159)) + (wrap64 (30 * t160)))) + 30)) - (wrap64 ((wrap64 ((wrap64 (360 * t156)) + (wrap64 (30 * t157)))) + t158))))) else (some (wrap64 ((wrap64 ((wrap64 ((wrap64 (360 * t159)) + (wrap64 (30 * t160)))) + t161)) - (wrap64 ((wrap64 ((wrap64 (360 * t156)) + (wrap64 (30 * t157)))) + t158))))))) = some r := H
  have A4 := Aside0.mk A40
  clear A40
  by_cases c5 : t158 = 31
  · rw [if_pos c5] at H
    have c5b0 : (t158 == 31) = true := beq_iff_eq.mpr c5
    have c5b1 : (t158 != 31) = false := bne_eq_false_iff_eq.mpr c5
    clear c5
    by_cases c6 : t161 = 31
    · rw [if_pos c6] at H
      have c6b0 : (t161 == 31) = true := beq_iff_eq.mpr c6
      have c6b1 : (t161 != 31) = false := bne_eq_false_iff_eq.mpr c6
      clear c6
      obtain rfl := Option.some.inj H
      go_enter Try.func52, Try.ntmps52
      go_wp2_with (first | ((with_reducible refine gate_callee (f := 25) rfl ?_); refine goesL_ (some 13) rfl rfl Try.func25 (by kernel_rfl) rfl #[.int .i64 a0] rfl (by (try simp only [List.map_toArray, List.map_cons, List.map_nil]); first | done | rfl | (simp only [List.length_drop, List.length_take]; rfl)) ?_; (with_reducible refine (passbookref03_Civil.calls k a0 t156 t157 t158 _ A3.out).mono ?_); rintro e w' ⟨rfl, ⟨nd, rfl⟩⟩; refine ⟨_, rfl, ?_⟩) | ((with_reducible refine gate_callee (f := 25) rfl ?_); refine goesL_ (some 19) rfl rfl Try.func25 (by kernel_rfl) rfl #[.int .i64 a1] rfl (by (try simp only [List.map_toArray, List.map_cons, List.map_nil]); first | done | rfl | (simp only [List.length_drop, List.length_take]; rfl)) ?_; (with_reducible refine (passbookref03_Civil.calls k a1 t159 t160 t161 _ A4.out).mono ?_); rintro e w' ⟨rfl, ⟨nd, rfl⟩⟩; refine ⟨_, rfl, ?_⟩))
      go_ret
      exact ⟨by first | rfl | (simp; done) | (simp [*]; done), by repeat (first | exact Drawn0.refl _ | apply Drawn0.step)⟩
    · rw [if_neg c6] at H
      have c6b0 : (t161 == 31) = false := beq_eq_false_iff_ne.mpr c6
      have c6b1 : (t161 != 31) = true := bne_iff_ne.mpr c6
      obtain rfl := Option.some.inj H
      go_enter Try.func52, Try.ntmps52
      go_wp2_with (first | ((with_reducible refine gate_callee (f := 25) rfl ?_); refine goesL_ (some 13) rfl rfl Try.func25 (by kernel_rfl) rfl #[.int .i64 a0] rfl (by (try simp only [List.map_toArray, List.map_cons, List.map_nil]); first | done | rfl | (simp only [List.length_drop, List.length_take]; rfl)) ?_; (with_reducible refine (passbookref03_Civil.calls k a0 t156 t157 t158 _ A3.out).mono ?_); rintro e w' ⟨rfl, ⟨nd, rfl⟩⟩; refine ⟨_, rfl, ?_⟩) | ((with_reducible refine gate_callee (f := 25) rfl ?_); refine goesL_ (some 19) rfl rfl Try.func25 (by kernel_rfl) rfl #[.int .i64 a1] rfl (by (try simp only [List.map_toArray, List.map_cons, List.map_nil]); first | done | rfl | (simp only [List.length_drop, List.length_take]; rfl)) ?_; (with_reducible refine (passbookref03_Civil.calls k a1 t159 t160 t161 _ A4.out).mono ?_); rintro e w' ⟨rfl, ⟨nd, rfl⟩⟩; refine ⟨_, rfl, ?_⟩))
      go_ret
      exact ⟨by first | rfl | (simp; done) | (simp [*]; done), by repeat (first | exact Drawn0.refl _ | apply Drawn0.step)⟩
  · rw [if_neg c5] at H
    have c5b0 : (t158 == 31) = false := beq_eq_false_iff_ne.mpr c5
    have c5b1 : (t158 != 31) = true := bne_iff_ne.mpr c5
    by_cases c7 : t161 = 31
    · rw [if_pos c7] at H
      have c7b0 : (t161 == 31) = true := beq_iff_eq.mpr c7
      have c7b1 : (t161 != 31) = false := bne_eq_false_iff_eq.mpr c7
      clear c7
      obtain rfl := Option.some.inj H
      go_enter Try.func52, Try.ntmps52
      go_wp2_with (first | ((with_reducible refine gate_callee (f := 25) rfl ?_); refine goesL_ (some 13) rfl rfl Try.func25 (by kernel_rfl) rfl #[.int .i64 a0] rfl (by (try simp only [List.map_toArray, List.map_cons, List.map_nil]); first | done | rfl | (simp only [List.length_drop, List.length_take]; rfl)) ?_; (with_reducible refine (passbookref03_Civil.calls k a0 t156 t157 t158 _ A3.out).mono ?_); rintro e w' ⟨rfl, ⟨nd, rfl⟩⟩; refine ⟨_, rfl, ?_⟩) | ((with_reducible refine gate_callee (f := 25) rfl ?_); refine goesL_ (some 19) rfl rfl Try.func25 (by kernel_rfl) rfl #[.int .i64 a1] rfl (by (try simp only [List.map_toArray, List.map_cons, List.map_nil]); first | done | rfl | (simp only [List.length_drop, List.length_take]; rfl)) ?_; (with_reducible refine (passbookref03_Civil.calls k a1 t159 t160 t161 _ A4.out).mono ?_); rintro e w' ⟨rfl, ⟨nd, rfl⟩⟩; refine ⟨_, rfl, ?_⟩))
      go_ret
      exact ⟨by first | rfl | (simp; done) | (simp [*]; done), by repeat (first | exact Drawn0.refl _ | apply Drawn0.step)⟩
    · rw [if_neg c7] at H
      have c7b0 : (t161 == 31) = false := beq_eq_false_iff_ne.mpr c7
      have c7b1 : (t161 != 31) = true := bne_iff_ne.mpr c7
      obtain rfl := Option.some.inj H
      go_enter Try.func52, Try.ntmps52
      go_wp2_with (first | ((with_reducible refine gate_callee (f := 25) rfl ?_); refine goesL_ (some 13) rfl rfl Try.func25 (by kernel_rfl) rfl #[.int .i64 a0] rfl (by (try simp only [List.map_toArray, List.map_cons, List.map_nil]); first | done | rfl | (simp only [List.length_drop, List.length_take]; rfl)) ?_; (with_reducible refine (passbookref03_Civil.calls k a0 t156 t157 t158 _ A3.out).mono ?_); rintro e w' ⟨rfl, ⟨nd, rfl⟩⟩; refine ⟨_, rfl, ?_⟩) | ((with_reducible refine gate_callee (f := 25) rfl ?_); refine goesL_ (some 19) rfl rfl Try.func25 (by kernel_rfl) rfl #[.int .i64 a1] rfl (by (try simp only [List.map_toArray, List.map_cons, List.map_nil]); first | done | rfl | (simp only [List.length_drop, List.length_take]; rfl)) ?_; (with_reducible refine (passbookref03_Civil.calls k a1 t159 t160 t161 _ A4.out).mono ?_); rintro e w' ⟨rfl, ⟨nd, rfl⟩⟩; refine ⟨_, rfl, ?_⟩))
      go_ret
      exact ⟨by first | rfl | (simp; done) | (simp [*]; done), by repeat (first | exact Drawn0.refl _ | apply Drawn0.step)⟩

/-! ### passbookref04_Part: function 51 -/
def passbookref04_Part.l0 : Nat → Int → Int → Int → Option (Int × Int)
  | 0, _, _, _ => none
  | k + 1, x2, x8, x9 => if x9 < x2 then ((passbookref03_Civil.f k x9).bind fun bt163 => ((passbookref03_Number.f k bt163.1 12 31).bind fun t166 => (if (wrap64 (t166 + 1)) > x2 then ((passbookref03_Leap.f bt163.1).bind fun t167 => (if t167 = true then (passbookref04_Part.l0 k x2 (wrap64 (x8 + (wrap64 (365 * (wrap64 (x2 - x9)))))) x2) else (passbookref04_Part.l0 k x2 (wrap64 (x8 + (wrap64 (366 * (wrap64 (x2 - x9)))))) x2))) else ((passbookref03_Leap.f bt163.1).bind fun t168 => (if t168 = true then (passbookref04_Part.l0 k x2 (wrap64 (x8 + (wrap64 (365 * (wrap64 ((wrap64 (t166 + 1)) - x9)))))) (wrap64 (t166 + 1))) else (passbookref04_Part.l0 k x2 (wrap64 (x8 + (wrap64 (366 * (wrap64 ((wrap64 (t166 + 1)) - x9)))))) (wrap64 (t166 + 1)))))))) else (some (x8, 133590))
def passbookref04_Part.f (k : Nat) (a0 : Int) (a1 : Int) (a2 : Int) : Option (Int × Int) := if a0 = 0 then (some (wrap64 (a2 - a1), 360)) else (if a0 = 1 then (some (wrap64 (a2 - a1), 365)) else (if a0 = 2 then ((passbookref04_Thirty.f k a1 a2).bind fun t162 => (some (t162, 360))) else (passbookref04_Part.l0 k a2 0 a1)))
theorem passbookref04_Part.mono_l : ∀ k, (∀ y0 y1 y2, LeO (passbookref04_Part.l0 k y0 y1 y2) (passbookref04_Part.l0 (k + 1) y0 y1 y2))
  | 0 => fun _ _ _ r h => by simp [passbookref04_Part.l0] at h
  | k + 1 => by
    have ih0 := passbookref04_Part.mono_l k
    · intro y0 y1 y2
      unfold passbookref04_Part.l0
      repeat' first
      | (with_reducible exact ih0 _ _ _)
      | (with_reducible exact passbookref03_Civil.mono _ _)
      | (with_reducible exact passbookref03_Number.mono _ _ _ _)
      | (with_reducible exact passbookref04_Thirty.mono _ _ _)
      | (with_reducible exact LeO.refl _)
      | (with_reducible exact LeO.none _)
      | (with_reducible refine LeO.ite ?_ ?_)
      | (with_reducible refine LeO.bind ?_ (fun _ => ?_))
      | exact ih0 _ _ _
      | exact passbookref03_Civil.mono _ _
      | exact passbookref03_Number.mono _ _ _ _
      | exact passbookref04_Thirty.mono _ _ _
      | exact LeO.none _
      | refine LeO.ite ?_ ?_
      | refine LeO.bind ?_ (fun _ => ?_)
theorem passbookref04_Part.mono : ∀ a0 a1 a2 k, LeO (passbookref04_Part.f k a0 a1 a2) (passbookref04_Part.f (k + 1) a0 a1 a2) := by
  intro a0 a1 a2 k
  have ih0 := passbookref04_Part.mono_l k
  unfold passbookref04_Part.f
  repeat' first
      | (with_reducible exact ih0 _ _ _)
      | (with_reducible exact passbookref03_Civil.mono _ _)
      | (with_reducible exact passbookref03_Number.mono _ _ _ _)
      | (with_reducible exact passbookref04_Thirty.mono _ _ _)
      | (with_reducible exact LeO.refl _)
      | (with_reducible exact LeO.none _)
      | (with_reducible refine LeO.ite ?_ ?_)
      | (with_reducible refine LeO.bind ?_ (fun _ => ?_))
      | exact ih0 _ _ _
      | exact passbookref03_Civil.mono _ _
      | exact passbookref03_Number.mono _ _ _ _
      | exact passbookref04_Thirty.mono _ _ _
      | exact LeO.none _
      | refine LeO.ite ?_ ?_
      | refine LeO.bind ?_ (fun _ => ?_)
set_option maxHeartbeats 8000000 in
set_option maxRecDepth 100000 in
theorem passbookref04_Part.calls (k : Nat) (a0 : Int) (a1 : Int) (a2 : Int) (r1 : Int) (r2 : Int) (w : World) (h : passbookref04_Part.f k a0 a1 a2 = some (r1, r2)) :
    Calls Try.prog 51 #[.int .i64 a0, .int .i64 a1, .int .i64 a2] w fun e w' => e = .returned (.tuple #[.int .i64 r1, .int .i64 r2]) ∧ Drawn0 w w' := by
  have H : (if a0 = 0 then (some (wrap64 (a2 - a1), 360)) else (if a0 = 1 then (some (wrap64 (a2 - a1), 365)) else (if a0 = 2 then ((passbookref04_Thirty.f k a1 a2).bind fun t162 => (some (t162, 360))) else (passbookref04_Part.l0 k a2 0 a1)))) = some (r1, r2) := h
  clear h
  by_cases c4 : a0 = 0
  · rw [if_pos c4] at H
    have c4b0 : (a0 == 0) = true := beq_iff_eq.mpr c4
    have c4b1 : (a0 != 0) = false := bne_eq_false_iff_eq.mpr c4
    clear c4
    simp only [Option.some.injEq, Prod.mk.injEq] at H
    obtain ⟨rfl, rfl⟩ := H
    go_enter Try.func51, Try.ntmps51
    go_wp2
    go_ret2
    exact ⟨by first | rfl | (simp; done) | (simp [*]; done), by repeat (first | exact Drawn0.refl _ | apply Drawn0.step)⟩
  · rw [if_neg c4] at H
    have c4b0 : (a0 == 0) = false := beq_eq_false_iff_ne.mpr c4
    have c4b1 : (a0 != 0) = true := bne_iff_ne.mpr c4
    by_cases c5 : a0 = 1
    · rw [if_pos c5] at H
      have c5b0 : (a0 == 1) = true := beq_iff_eq.mpr c5
      have c5b1 : (a0 != 1) = false := bne_eq_false_iff_eq.mpr c5
      clear c5
      simp only [Option.some.injEq, Prod.mk.injEq] at H
      obtain ⟨rfl, rfl⟩ := H
      go_enter Try.func51, Try.ntmps51
      go_wp2
      go_ret2
      exact ⟨by first | rfl | (simp; done) | (simp [*]; done), by repeat (first | exact Drawn0.refl _ | apply Drawn0.step)⟩
    · rw [if_neg c5] at H
      have c5b0 : (a0 == 1) = false := beq_eq_false_iff_ne.mpr c5
      have c5b1 : (a0 != 1) = true := bne_iff_ne.mpr c5
      by_cases c6 : a0 = 2
      · rw [if_pos c6] at H
        have c6b0 : (a0 == 2) = true := beq_iff_eq.mpr c6
        have c6b1 : (a0 != 2) = false := bne_eq_false_iff_eq.mpr c6
        clear c6
        replace H := Option.bind_eq_some_iff.mp H
        obtain ⟨t162, A70, H⟩ := H
        replace H : (some (t162, 360)) = some (r1, r2) := H
        have A7 := Aside0.mk A70
        clear A70
        simp only [Option.some.injEq, Prod.mk.injEq] at H
        obtain ⟨rfl, rfl⟩ := H
        go_enter Try.func51, Try.ntmps51
        go_wp2_with (first | ((with_reducible refine gate_callee (f := 52) rfl ?_); refine goesL_ (some 29) rfl rfl Try.func52 (by kernel_rfl) rfl #[.int .i64 a1, .int .i64 a2] rfl (by (try simp only [List.map_toArray, List.map_cons, List.map_nil]); first | done | rfl | (simp only [List.length_drop, List.length_take]; rfl)) ?_; (with_reducible refine (passbookref04_Thirty.calls k a1 a2 t162 _ A7.out).mono ?_); rintro e w' ⟨rfl, ⟨nd, rfl⟩⟩; refine ⟨_, rfl, ?_⟩))
        go_ret2
        exact ⟨by first | rfl | (simp; done) | (simp [*]; done), by repeat (first | exact Drawn0.refl _ | apply Drawn0.step)⟩
      · rw [if_neg c6] at H
        have c6b0 : (a0 == 2) = false := beq_eq_false_iff_ne.mpr c6
        have c6b1 : (a0 != 2) = true := bne_iff_ne.mpr c6
        have H' := Aside0.mk H
        clear H
        go_enter Try.func51, Try.ntmps51
        go_wp2
        go_loopg [8, 9] k (fun kq v8 v9 w' => ∃ (x8_1 : Int) (x9_1 : Int), v8 = .int .i64 x8_1 ∧ v9 = .int .i64 x9_1 ∧ Aside0 (passbookref04_Part.l0 kq a2 x8_1 x9_1 = some (r1, r2)) ∧ Aside0 (kq ≤ k) ∧ Drawn0 w w')
        case atStart => exact ⟨(0), (a1), (by first | rfl | (simp; done) | (simp [*]; done)), (by first | rfl | (simp; done) | (simp [*]; done)), H', ⟨Nat.le_refl _⟩, by repeat (first | exact Drawn0.refl _ | apply Drawn0.step)⟩
        case round =>
          clear H'
          try clear p2
          try clear c4
          try clear c4b0
          try clear c4b1
          try clear c5
          try clear c5b0
          try clear c5b1
          try clear c6
          try clear c6b0
          try clear c6b1
          try clear p6
          obtain ⟨x8_1, x9_1, rfl, rfl, HA, HK1, ⟨m1, rfl⟩⟩ := hrel
          cases gk with
          | zero => exact absurd HA.out (by simp [passbookref04_Part.l0])
          | succ k1 =>
            have H := HA.out
            clear HA
            simp only [passbookref04_Part.l0] at H
            by_cases c8 : x9_1 < a2
            · rw [if_pos c8] at H
              have c8b0 : decide (x9_1 < a2) = true := decide_eq_true c8
              clear c8
              replace H := Option.bind_eq_some_iff.mp H
              obtain ⟨⟨t163, t164, t165⟩, A90, H⟩ := H
              replace H : ((passbookref03_Number.f k1 t163 12 31).bind fun t166 => (if (wrap64 (t166 + 1)) > a2 then ((passbookref03_Leap.f t163).bind fun t167 => (if t167 = true then (passbookref04_Part.l0 k1 a2 (wrap64 (x8_1 + (wrap64 (365 * (wrap64 (a2 - x9_1)))))) a2) else (passbookref04_Part.l0 k1 a2 (wrap64 (x8_1 + (wrap64 (366 * (wrap64 (a2 - x9_1)))))) a2))) else ((passbookref03_Leap.f t163).bind fun t168 => (if t168 = true then (passbookref04_Part.l0 k1 a2 (wrap64 (x8_1 + (wrap64 (365 * (wrap64 ((wrap64 (t166 + 1)) - x9_1)))))) (wrap64 (t166 + 1))) else (passbookref04_Part.l0 k1 a2 (wrap64 (x8_1 + (wrap64 (366 * (wrap64 ((wrap64 (t166 + 1)) - x9_1)))))) (wrap64 (t166 + 1))))))) = some (r1, r2) := H
              have A9 := Aside0.mk A90
              clear A90
              replace H := Option.bind_eq_some_iff.mp H
              obtain ⟨t166, A100, H⟩ := H
              replace H : (if (wrap64 (t166 + 1)) > a2 then ((passbookref03_Leap.f t163).bind fun t167 => (if t167 = true then (passbookref04_Part.l0 k1 a2 (wrap64 (x8_1 + (wrap64 (365 * (wrap64 (a2 - x9_1)))))) a2) else (passbookref04_Part.l0 k1 a2 (wrap64 (x8_1 + (wrap64 (366 * (wrap64 (a2 - x9_1)))))) a2))) else ((passbookref03_Leap.f t163).bind fun t168 => (if t168 = true then (passbookref04_Part.l0 k1 a2 (wrap64 (x8_1 + (wrap64 (365 * (wrap64 ((wrap64 (t166 + 1)) - x9_1)))))) (wrap64 (t166 + 1))) else (passbookref04_Part.l0 k1 a2 (wrap64 (x8_1 + (wrap64 (366 * (wrap64 ((wrap64 (t166 + 1)) - x9_1)))))) (wrap64 (t166 + 1)))))) = some (r1, r2) := H
              have A10 := Aside0.mk A100
              clear A100
              by_cases c11 : (wrap64 (t166 + 1)) > a2
              · rw [if_pos c11] at H
                have c11b0 : decide (a2 < (wrap64 (t166 + 1))) = true := decide_eq_true c11
                clear c11
                replace H := Option.bind_eq_some_iff.mp H
                obtain ⟨t167, A120, H⟩ := H
                replace H : (if t167 = true then (passbookref04_Part.l0 k1 a2 (wrap64 (x8_1 + (wrap64 (365 * (wrap64 (a2 - x9_1)))))) a2) else (passbookref04_Part.l0 k1 a2 (wrap64 (x8_1 + (wrap64 (366 * (wrap64 (a2 - x9_1)))))) a2)) = some (r1, r2) := H
                have A12 := Aside0.mk A120
                clear A120
                by_cases c13 : t167 = true
                · subst c13
                  have H1 : (passbookref04_Part.l0 k1 a2 (wrap64 (x8_1 + (wrap64 (365 * (wrap64 (a2 - x9_1)))))) a2) = some (r1, r2) := by rw [if_pos rfl] at H; exact H
                  clear H
                  have H := H1
                  clear H1
                  have H' := Aside0.mk H
                  clear H
                  go_wp2_with (first | ((with_reducible refine gate_callee (f := 25) rfl ?_); refine goesL_ (some 36) rfl rfl Try.func25 (by kernel_rfl) rfl #[.int .i64 x9_1] rfl (by (try simp only [List.map_toArray, List.map_cons, List.map_nil]); first | done | rfl | (simp only [List.length_drop, List.length_take]; rfl)) ?_; (with_reducible refine (passbookref03_Civil.calls k1 x9_1 t163 t164 t165 _ A9.out).mono ?_); rintro e w' ⟨rfl, ⟨nd, rfl⟩⟩; refine ⟨_, rfl, ?_⟩) | ((with_reducible refine gate_callee (f := 41) rfl ?_); refine goesL_ (some 41) rfl rfl Try.func41 (by kernel_rfl) rfl #[.int .i64 t163, .int .i64 12, .int .i64 31] rfl (by (try simp only [List.map_toArray, List.map_cons, List.map_nil]); first | done | rfl | (simp only [List.length_drop, List.length_take]; rfl)) ?_; (with_reducible refine (passbookref03_Number.calls k1 t163 12 31 t166 _ A10.out).mono ?_); rintro e w' ⟨rfl, ⟨nd, rfl⟩⟩; refine ⟨_, rfl, ?_⟩) | ((with_reducible refine gate_callee (f := 45) rfl ?_); refine goesL_ (some 48) rfl rfl Try.func45 (by kernel_rfl) rfl #[.int .i64 t163] rfl (by (try simp only [List.map_toArray, List.map_cons, List.map_nil]); first | done | rfl | (simp only [List.length_drop, List.length_take]; rfl)) ?_; (with_reducible refine (passbookref03_Leap.calls t163 true _ A12.out).mono ?_); rintro e w' ⟨rfl, ⟨nd, rfl⟩⟩; refine ⟨_, rfl, ?_⟩))
                  go_roundg k1
                  case measure => have := HK1.out; omega
                  case rel => exact ⟨(wrap64 (x8_1 + (wrap64 (365 * (wrap64 (a2 - x9_1)))))), (a2), (by first | rfl | (simp; done) | (simp [*]; done)), (by first | rfl | (simp; done) | (simp [*]; done)), H', ⟨by have := HK1.out; omega⟩, by repeat (first | exact Drawn0.refl _ | apply Drawn0.step)⟩
                · replace c13 := Bool.eq_false_iff.mpr c13
                  subst c13
                  have H1 : (passbookref04_Part.l0 k1 a2 (wrap64 (x8_1 + (wrap64 (366 * (wrap64 (a2 - x9_1)))))) a2) = some (r1, r2) := by rw [if_neg (show ¬ (false = true) by decide)] at H; exact H
                  clear H
                  have H := H1
                  clear H1
                  have H' := Aside0.mk H
                  clear H
                  go_wp2_with (first | ((with_reducible refine gate_callee (f := 25) rfl ?_); refine goesL_ (some 36) rfl rfl Try.func25 (by kernel_rfl) rfl #[.int .i64 x9_1] rfl (by (try simp only [List.map_toArray, List.map_cons, List.map_nil]); first | done | rfl | (simp only [List.length_drop, List.length_take]; rfl)) ?_; (with_reducible refine (passbookref03_Civil.calls k1 x9_1 t163 t164 t165 _ A9.out).mono ?_); rintro e w' ⟨rfl, ⟨nd, rfl⟩⟩; refine ⟨_, rfl, ?_⟩) | ((with_reducible refine gate_callee (f := 41) rfl ?_); refine goesL_ (some 41) rfl rfl Try.func41 (by kernel_rfl) rfl #[.int .i64 t163, .int .i64 12, .int .i64 31] rfl (by (try simp only [List.map_toArray, List.map_cons, List.map_nil]); first | done | rfl | (simp only [List.length_drop, List.length_take]; rfl)) ?_; (with_reducible refine (passbookref03_Number.calls k1 t163 12 31 t166 _ A10.out).mono ?_); rintro e w' ⟨rfl, ⟨nd, rfl⟩⟩; refine ⟨_, rfl, ?_⟩) | ((with_reducible refine gate_callee (f := 45) rfl ?_); refine goesL_ (some 48) rfl rfl Try.func45 (by kernel_rfl) rfl #[.int .i64 t163] rfl (by (try simp only [List.map_toArray, List.map_cons, List.map_nil]); first | done | rfl | (simp only [List.length_drop, List.length_take]; rfl)) ?_; (with_reducible refine (passbookref03_Leap.calls t163 false _ A12.out).mono ?_); rintro e w' ⟨rfl, ⟨nd, rfl⟩⟩; refine ⟨_, rfl, ?_⟩))
                  go_roundg k1
                  case measure => have := HK1.out; omega
                  case rel => exact ⟨(wrap64 (x8_1 + (wrap64 (366 * (wrap64 (a2 - x9_1)))))), (a2), (by first | rfl | (simp; done) | (simp [*]; done)), (by first | rfl | (simp; done) | (simp [*]; done)), H', ⟨by have := HK1.out; omega⟩, by repeat (first | exact Drawn0.refl _ | apply Drawn0.step)⟩
              · rw [if_neg c11] at H
                have c11b0 : decide (a2 < (wrap64 (t166 + 1))) = false := decide_eq_false c11
                clear c11
                replace H := Option.bind_eq_some_iff.mp H
                obtain ⟨t168, A140, H⟩ := H
                replace H : (if t168 = true then (passbookref04_Part.l0 k1 a2 (wrap64 (x8_1 + (wrap64 (365 * (wrap64 ((wrap64 (t166 + 1)) - x9_1)))))) (wrap64 (t166 + 1))) else (passbookref04_Part.l0 k1 a2 (wrap64 (x8_1 + (wrap64 (366 * (wrap64 ((wrap64 (t166 + 1)) - x9_1)))))) (wrap64 (t166 + 1)))) = some (r1, r2) := H
                have A14 := Aside0.mk A140
                clear A140
                by_cases c15 : t168 = true
                · subst c15
                  have H1 : (passbookref04_Part.l0 k1 a2 (wrap64 (x8_1 + (wrap64 (365 * (wrap64 ((wrap64 (t166 + 1)) - x9_1)))))) (wrap64 (t166 + 1))) = some (r1, r2) := by rw [if_pos rfl] at H; exact H
                  clear H
                  have H := H1
                  clear H1
                  have H' := Aside0.mk H
                  clear H
                  go_wp2_with (first | ((with_reducible refine gate_callee (f := 25) rfl ?_); refine goesL_ (some 36) rfl rfl Try.func25 (by kernel_rfl) rfl #[.int .i64 x9_1] rfl (by (try simp only [List.map_toArray, List.map_cons, List.map_nil]); first | done | rfl | (simp only [List.length_drop, List.length_take]; rfl)) ?_; (with_reducible refine (passbookref03_Civil.calls k1 x9_1 t163 t164 t165 _ A9.out).mono ?_); rintro e w' ⟨rfl, ⟨nd, rfl⟩⟩; refine ⟨_, rfl, ?_⟩) | ((with_reducible refine gate_callee (f := 41) rfl ?_); refine goesL_ (some 41) rfl rfl Try.func41 (by kernel_rfl) rfl #[.int .i64 t163, .int .i64 12, .int .i64 31] rfl (by (try simp only [List.map_toArray, List.map_cons, List.map_nil]); first | done | rfl | (simp only [List.length_drop, List.length_take]; rfl)) ?_; (with_reducible refine (passbookref03_Number.calls k1 t163 12 31 t166 _ A10.out).mono ?_); rintro e w' ⟨rfl, ⟨nd, rfl⟩⟩; refine ⟨_, rfl, ?_⟩) | ((with_reducible refine gate_callee (f := 45) rfl ?_); refine goesL_ (some 48) rfl rfl Try.func45 (by kernel_rfl) rfl #[.int .i64 t163] rfl (by (try simp only [List.map_toArray, List.map_cons, List.map_nil]); first | done | rfl | (simp only [List.length_drop, List.length_take]; rfl)) ?_; (with_reducible refine (passbookref03_Leap.calls t163 true _ A14.out).mono ?_); rintro e w' ⟨rfl, ⟨nd, rfl⟩⟩; refine ⟨_, rfl, ?_⟩))
                  go_roundg k1
                  case measure => have := HK1.out; omega
                  case rel => exact ⟨(wrap64 (x8_1 + (wrap64 (365 * (wrap64 ((wrap64 (t166 + 1)) - x9_1)))))), (wrap64 (t166 + 1)), (by first | rfl | (simp; done) | (simp [*]; done)), (by first | rfl | (simp; done) | (simp [*]; done)), H', ⟨by have := HK1.out; omega⟩, by repeat (first | exact Drawn0.refl _ | apply Drawn0.step)⟩
                · replace c15 := Bool.eq_false_iff.mpr c15
                  subst c15
                  have H1 : (passbookref04_Part.l0 k1 a2 (wrap64 (x8_1 + (wrap64 (366 * (wrap64 ((wrap64 (t166 + 1)) - x9_1)))))) (wrap64 (t166 + 1))) = some (r1, r2) := by rw [if_neg (show ¬ (false = true) by decide)] at H; exact H
                  clear H
                  have H := H1
                  clear H1
                  have H' := Aside0.mk H
                  clear H
                  go_wp2_with (first | ((with_reducible refine gate_callee (f := 25) rfl ?_); refine goesL_ (some 36) rfl rfl Try.func25 (by kernel_rfl) rfl #[.int .i64 x9_1] rfl (by (try simp only [List.map_toArray, List.map_cons, List.map_nil]); first | done | rfl | (simp only [List.length_drop, List.length_take]; rfl)) ?_; (with_reducible refine (passbookref03_Civil.calls k1 x9_1 t163 t164 t165 _ A9.out).mono ?_); rintro e w' ⟨rfl, ⟨nd, rfl⟩⟩; refine ⟨_, rfl, ?_⟩) | ((with_reducible refine gate_callee (f := 41) rfl ?_); refine goesL_ (some 41) rfl rfl Try.func41 (by kernel_rfl) rfl #[.int .i64 t163, .int .i64 12, .int .i64 31] rfl (by (try simp only [List.map_toArray, List.map_cons, List.map_nil]); first | done | rfl | (simp only [List.length_drop, List.length_take]; rfl)) ?_; (with_reducible refine (passbookref03_Number.calls k1 t163 12 31 t166 _ A10.out).mono ?_); rintro e w' ⟨rfl, ⟨nd, rfl⟩⟩; refine ⟨_, rfl, ?_⟩) | ((with_reducible refine gate_callee (f := 45) rfl ?_); refine goesL_ (some 48) rfl rfl Try.func45 (by kernel_rfl) rfl #[.int .i64 t163] rfl (by (try simp only [List.map_toArray, List.map_cons, List.map_nil]); first | done | rfl | (simp only [List.length_drop, List.length_take]; rfl)) ?_; (with_reducible refine (passbookref03_Leap.calls t163 false _ A14.out).mono ?_); rintro e w' ⟨rfl, ⟨nd, rfl⟩⟩; refine ⟨_, rfl, ?_⟩))
                  go_roundg k1
                  case measure => have := HK1.out; omega
                  case rel => exact ⟨(wrap64 (x8_1 + (wrap64 (366 * (wrap64 ((wrap64 (t166 + 1)) - x9_1)))))), (wrap64 (t166 + 1)), (by first | rfl | (simp; done) | (simp [*]; done)), (by first | rfl | (simp; done) | (simp [*]; done)), H', ⟨by have := HK1.out; omega⟩, by repeat (first | exact Drawn0.refl _ | apply Drawn0.step)⟩
            · rw [if_neg c8] at H
              have c8b0 : decide (x9_1 < a2) = false := decide_eq_false c8
              clear c8
              simp only [Option.some.injEq, Prod.mk.injEq] at H
              obtain ⟨rfl, rfl⟩ := H
              go_wp2
              go_ret2
              exact ⟨by first | rfl | (simp; done) | (simp [*]; done), by repeat (first | exact Drawn0.refl _ | apply Drawn0.step)⟩

/-! ### passbookref04_DocPart: function 33 -/
def passbookref04_DocPart.f (k : Nat) (a0 : Int) (a1 : Int) (a2 : Int) : Option (Int × Int × Int) := (passbookref04_Check.f k a0 a1 a2).bind fun t169 => (if t169 = 0 then ((passbookref04_Part.f k a0 a1 a2).bind fun bt170 => (some (bt170.1, bt170.2, 0))) else (some (0, 0, t169)))
theorem passbookref04_DocPart.mono : ∀ a0 a1 a2 k, LeO (passbookref04_DocPart.f k a0 a1 a2) (passbookref04_DocPart.f (k + 1) a0 a1 a2) := by
  intro a0 a1 a2 k
  unfold passbookref04_DocPart.f
  repeat' first
      | (with_reducible exact passbookref04_Check.mono _ _ _ _)
      | (with_reducible exact passbookref04_Part.mono _ _ _ _)
      | (with_reducible exact LeO.refl _)
      | (with_reducible exact LeO.none _)
      | (with_reducible refine LeO.ite ?_ ?_)
      | (with_reducible refine LeO.bind ?_ (fun _ => ?_))
      | exact passbookref04_Check.mono _ _ _ _
      | exact passbookref04_Part.mono _ _ _ _
      | exact LeO.none _
      | refine LeO.ite ?_ ?_
      | refine LeO.bind ?_ (fun _ => ?_)
set_option maxHeartbeats 8000000 in
set_option maxRecDepth 100000 in
theorem passbookref04_DocPart.calls (k : Nat) (a0 : Int) (a1 : Int) (a2 : Int) (r1 : Int) (r2 : Int) (r3 : Int) (w : World) (h : passbookref04_DocPart.f k a0 a1 a2 = some (r1, r2, r3)) :
    Calls Try.prog 33 #[.int .i64 a0, .int .i64 a1, .int .i64 a2] w fun e w' => e = .returned (.tuple #[.int .i64 r1, .int .i64 r2, .int .i64 r3]) ∧ Drawn0 w w' := by
  have H : ((passbookref04_Check.f k a0 a1 a2).bind fun t169 => (if t169 = 0 then ((passbookref04_Part.f k a0 a1 a2).bind fun bt170 => (some (bt170.1, bt170.2, 0))) else (some (0, 0, t169)))) = some (r1, r2, r3) := h
  clear h
  replace H := Option.bind_eq_some_iff.mp H
  obtain ⟨t169, A40, H⟩ := H
  replace H : (if t169 = 0 then ((passbookref04_Part.f k a0 a1 a2).bind fun bt170 => (some (bt170.1, bt170.2, 0))) else (some (0, 0, t169))) = some (r1, r2, r3) := H
  have A4 := Aside0.mk A40
  clear A40
  by_cases c5 : t169 = 0
  · rw [if_pos c5] at H
    have c5b0 : (t169 == 0) = true := beq_iff_eq.mpr c5
    have c5b1 : (t169 != 0) = false := bne_eq_false_iff_eq.mpr c5
    clear c5
    replace H := Option.bind_eq_some_iff.mp H
    obtain ⟨⟨t170, t171⟩, A60, H⟩ := H
    replace H : (some (t170, t171, 0)) = some (r1, r2, r3) := H
    have A6 := Aside0.mk A60
    clear A60
    simp only [Option.some.injEq, Prod.mk.injEq] at H
    obtain ⟨rfl, rfl, rfl⟩ := H
    go_enter Try.func33, Try.ntmps33
    go_wp2_with (first | ((with_reducible refine gate_callee (f := 50) rfl ?_); refine goesL_ (some 15) rfl rfl Try.func50 (by kernel_rfl) rfl #[.int .i64 a0, .int .i64 a1, .int .i64 a2] rfl (by (try simp only [List.map_toArray, List.map_cons, List.map_nil]); first | done | rfl | (simp only [List.length_drop, List.length_take]; rfl)) ?_; (with_reducible refine (passbookref04_Check.calls k a0 a1 a2 t169 _ A4.out).mono ?_); rintro e w' ⟨rfl, ⟨nd, rfl⟩⟩; refine ⟨_, rfl, ?_⟩) | ((with_reducible refine gate_callee (f := 51) rfl ?_); refine goesL_ (some 23) rfl rfl Try.func51 (by kernel_rfl) rfl #[.int .i64 a0, .int .i64 a1, .int .i64 a2] rfl (by (try simp only [List.map_toArray, List.map_cons, List.map_nil]); first | done | rfl | (simp only [List.length_drop, List.length_take]; rfl)) ?_; (with_reducible refine (passbookref04_Part.calls k a0 a1 a2 t170 t171 _ A6.out).mono ?_); rintro e w' ⟨rfl, ⟨nd, rfl⟩⟩; refine ⟨_, rfl, ?_⟩))
    go_ret3
    exact ⟨by first | rfl | (simp; done) | (simp [*]; done), by repeat (first | exact Drawn0.refl _ | apply Drawn0.step)⟩
  · rw [if_neg c5] at H
    have c5b0 : (t169 == 0) = false := beq_eq_false_iff_ne.mpr c5
    have c5b1 : (t169 != 0) = true := bne_iff_ne.mpr c5
    simp only [Option.some.injEq, Prod.mk.injEq] at H
    obtain ⟨rfl, rfl, rfl⟩ := H
    go_enter Try.func33, Try.ntmps33
    go_wp2_with (first | ((with_reducible refine gate_callee (f := 50) rfl ?_); refine goesL_ (some 15) rfl rfl Try.func50 (by kernel_rfl) rfl #[.int .i64 a0, .int .i64 a1, .int .i64 a2] rfl (by (try simp only [List.map_toArray, List.map_cons, List.map_nil]); first | done | rfl | (simp only [List.length_drop, List.length_take]; rfl)) ?_; (with_reducible refine (passbookref04_Check.calls k a0 a1 a2 t169 _ A4.out).mono ?_); rintro e w' ⟨rfl, ⟨nd, rfl⟩⟩; refine ⟨_, rfl, ?_⟩))
    go_ret3
    exact ⟨by first | rfl | (simp; done) | (simp [*]; done), by repeat (first | exact Drawn0.refl _ | apply Drawn0.step)⟩

/-! ### basis_Days: function 34 -/
def basis_Days.f (k : Nat) (a0 : Int) (a1 : Int) (a2 : Int) : Option (Int × Int) := (basis_Part.f k a0 a1 a2).bind fun bt172 => (if bt172.2.2 = 0 then (if a0 = 3 then (some (wrap64 (a2 - a1), bt172.2.2)) else (some (bt172.1, bt172.2.2))) else (some (bt172.1, bt172.2.2)))
theorem basis_Days.mono : ∀ a0 a1 a2 k, LeO (basis_Days.f k a0 a1 a2) (basis_Days.f (k + 1) a0 a1 a2) := by
  intro a0 a1 a2 k
  unfold basis_Days.f
  repeat' first
      | (with_reducible exact basis_Part.mono _ _ _ _)
      | (with_reducible exact LeO.refl _)
      | (with_reducible exact LeO.none _)
      | (with_reducible refine LeO.ite ?_ ?_)
      | (with_reducible refine LeO.bind ?_ (fun _ => ?_))
      | exact basis_Part.mono _ _ _ _
      | exact LeO.none _
      | refine LeO.ite ?_ ?_
      | refine LeO.bind ?_ (fun _ => ?_)
set_option maxHeartbeats 8000000 in
set_option maxRecDepth 100000 in
theorem basis_Days.calls (k : Nat) (a0 : Int) (a1 : Int) (a2 : Int) (r1 : Int) (r2 : Int) (w : World) (h : basis_Days.f k a0 a1 a2 = some (r1, r2)) :
    Calls Try.prog 34 #[.int .i64 a0, .int .i64 a1, .int .i64 a2] w fun e w' => e = .returned (.tuple #[.int .i64 r1, .int .i64 r2]) ∧ Below w.heap.size w w' := by
  have HB := Aside0.mk (Below.refl w.heap.size w)
  have H : ((basis_Part.f k a0 a1 a2).bind fun bt172 => (if bt172.2.2 = 0 then (if a0 = 3 then (some (wrap64 (a2 - a1), bt172.2.2)) else (some (bt172.1, bt172.2.2))) else (some (bt172.1, bt172.2.2)))) = some (r1, r2) := h
  clear h
  replace H := Option.bind_eq_some_iff.mp H
  obtain ⟨⟨t172, t173, t174⟩, A40, H⟩ := H
  replace H : (if t174 = 0 then (if a0 = 3 then (some (wrap64 (a2 - a1), t174)) else (some (t172, t174))) else (some (t172, t174))) = some (r1, r2) := H
  have A4 := Aside0.mk A40
  clear A40
  by_cases c5 : t174 = 0
  · rw [if_pos c5] at H
    have c5b0 : (t174 == 0) = true := beq_iff_eq.mpr c5
    have c5b1 : (t174 != 0) = false := bne_eq_false_iff_eq.mpr c5
    clear c5
    by_cases c6 : a0 = 3
    · rw [if_pos c6] at H
      have c6b0 : (a0 == 3) = true := beq_iff_eq.mpr c6
      have c6b1 : (a0 != 3) = false := bne_eq_false_iff_eq.mpr c6
      clear c6
      simp only [Option.some.injEq, Prod.mk.injEq] at H
      obtain ⟨rfl, rfl⟩ := H
      go_enter Try.func34, Try.ntmps34
      go_wp2_with (first | ((with_reducible refine gate_callee (f := 32) rfl ?_); refine goesL_ (some 15) rfl rfl Try.func32 (by kernel_rfl) rfl #[.int .i64 a0, .int .i64 a1, .int .i64 a2] rfl (by (try simp only [List.map_toArray, List.map_cons, List.map_nil]); first | done | rfl | (simp only [List.length_drop, List.length_take]; rfl)) ?_; (with_reducible refine (basis_Part.calls k a0 a1 a2 t172 t173 t174 _ A4.out).mono ?_); rintro e w7 ⟨rfl, hb⟩; refine ⟨_, rfl, ?_⟩; have n0_ := Aside0.mk (below_step (by repeat (first | (with_reducible first | exact HB.out | apply below_alloc | apply pw_below_drewN | apply below_drew1) | exact HB.out)) hb); clear HB; have HB := n0_; clear n0_; (try clear hb); (try clear hb2); (try clear hk); (try clear hi)))
      go_ret2
      exact ⟨by first | rfl | (simp [errW_none, errW_some] <;> rfl) | (simp [*, errW_none, errW_some] <;> rfl), by repeat (first | (with_reducible first | exact HB.out | apply below_alloc | apply pw_below_drewN | apply below_drew1) | exact HB.out)⟩
    · rw [if_neg c6] at H
      have c6b0 : (a0 == 3) = false := beq_eq_false_iff_ne.mpr c6
      have c6b1 : (a0 != 3) = true := bne_iff_ne.mpr c6
      simp only [Option.some.injEq, Prod.mk.injEq] at H
      obtain ⟨rfl, rfl⟩ := H
      go_enter Try.func34, Try.ntmps34
      go_wp2_with (first | ((with_reducible refine gate_callee (f := 32) rfl ?_); refine goesL_ (some 15) rfl rfl Try.func32 (by kernel_rfl) rfl #[.int .i64 a0, .int .i64 a1, .int .i64 a2] rfl (by (try simp only [List.map_toArray, List.map_cons, List.map_nil]); first | done | rfl | (simp only [List.length_drop, List.length_take]; rfl)) ?_; (with_reducible refine (basis_Part.calls k a0 a1 a2 t172 t173 t174 _ A4.out).mono ?_); rintro e w8 ⟨rfl, hb⟩; refine ⟨_, rfl, ?_⟩; have n0_ := Aside0.mk (below_step (by repeat (first | (with_reducible first | exact HB.out | apply below_alloc | apply pw_below_drewN | apply below_drew1) | exact HB.out)) hb); clear HB; have HB := n0_; clear n0_; (try clear hb); (try clear hb2); (try clear hk); (try clear hi)))
      go_ret2
      exact ⟨by first | rfl | (simp [errW_none, errW_some] <;> rfl) | (simp [*, errW_none, errW_some] <;> rfl), by repeat (first | (with_reducible first | exact HB.out | apply below_alloc | apply pw_below_drewN | apply below_drew1) | exact HB.out)⟩
  · rw [if_neg c5] at H
    have c5b0 : (t174 == 0) = false := beq_eq_false_iff_ne.mpr c5
    have c5b1 : (t174 != 0) = true := bne_iff_ne.mpr c5
    simp only [Option.some.injEq, Prod.mk.injEq] at H
    obtain ⟨rfl, rfl⟩ := H
    go_enter Try.func34, Try.ntmps34
    go_wp2_with (first | ((with_reducible refine gate_callee (f := 32) rfl ?_); refine goesL_ (some 15) rfl rfl Try.func32 (by kernel_rfl) rfl #[.int .i64 a0, .int .i64 a1, .int .i64 a2] rfl (by (try simp only [List.map_toArray, List.map_cons, List.map_nil]); first | done | rfl | (simp only [List.length_drop, List.length_take]; rfl)) ?_; (with_reducible refine (basis_Part.calls k a0 a1 a2 t172 t173 t174 _ A4.out).mono ?_); rintro e w9 ⟨rfl, hb⟩; refine ⟨_, rfl, ?_⟩; have n0_ := Aside0.mk (below_step (by repeat (first | (with_reducible first | exact HB.out | apply below_alloc | apply pw_below_drewN | apply below_drew1) | exact HB.out)) hb); clear HB; have HB := n0_; clear n0_; (try clear hb); (try clear hb2); (try clear hk); (try clear hi)))
    go_ret2
    exact ⟨by first | rfl | (simp [errW_none, errW_some] <;> rfl) | (simp [*, errW_none, errW_some] <;> rfl), by repeat (first | (with_reducible first | exact HB.out | apply below_alloc | apply pw_below_drewN | apply below_drew1) | exact HB.out)⟩

/-! ### passbookref04_DocDays: function 35 -/
def passbookref04_DocDays.f (k : Nat) (a0 : Int) (a1 : Int) (a2 : Int) : Option (Int × Int) := (passbookref04_Check.f k a0 a1 a2).bind fun t175 => (if t175 = 0 then (if a0 = 2 then ((passbookref04_Thirty.f k a1 a2).bind fun t176 => (some (t176, 0))) else (some (wrap64 (a2 - a1), 0))) else (some (0, t175)))
theorem passbookref04_DocDays.mono : ∀ a0 a1 a2 k, LeO (passbookref04_DocDays.f k a0 a1 a2) (passbookref04_DocDays.f (k + 1) a0 a1 a2) := by
  intro a0 a1 a2 k
  unfold passbookref04_DocDays.f
  repeat' first
      | (with_reducible exact passbookref04_Check.mono _ _ _ _)
      | (with_reducible exact passbookref04_Thirty.mono _ _ _)
      | (with_reducible exact LeO.refl _)
      | (with_reducible exact LeO.none _)
      | (with_reducible refine LeO.ite ?_ ?_)
      | (with_reducible refine LeO.bind ?_ (fun _ => ?_))
      | exact passbookref04_Check.mono _ _ _ _
      | exact passbookref04_Thirty.mono _ _ _
      | exact LeO.none _
      | refine LeO.ite ?_ ?_
      | refine LeO.bind ?_ (fun _ => ?_)
set_option maxHeartbeats 8000000 in
set_option maxRecDepth 100000 in
theorem passbookref04_DocDays.calls (k : Nat) (a0 : Int) (a1 : Int) (a2 : Int) (r1 : Int) (r2 : Int) (w : World) (h : passbookref04_DocDays.f k a0 a1 a2 = some (r1, r2)) :
    Calls Try.prog 35 #[.int .i64 a0, .int .i64 a1, .int .i64 a2] w fun e w' => e = .returned (.tuple #[.int .i64 r1, .int .i64 r2]) ∧ Drawn0 w w' := by
  have H : ((passbookref04_Check.f k a0 a1 a2).bind fun t175 => (if t175 = 0 then (if a0 = 2 then ((passbookref04_Thirty.f k a1 a2).bind fun t176 => (some (t176, 0))) else (some (wrap64 (a2 - a1), 0))) else (some (0, t175)))) = some (r1, r2) := h
  clear h
  replace H := Option.bind_eq_some_iff.mp H
  obtain ⟨t175, A40, H⟩ := H
  replace H : (if t175 = 0 then (if a0 = 2 then ((passbookref04_Thirty.f k a1 a2).bind fun t176 => (some (t176, 0))) else (some (wrap64 (a2 - a1), 0))) else (some (0, t175))) = some (r1, r2) := H
  have A4 := Aside0.mk A40
  clear A40
  by_cases c5 : t175 = 0
  · rw [if_pos c5] at H
    have c5b0 : (t175 == 0) = true := beq_iff_eq.mpr c5
    have c5b1 : (t175 != 0) = false := bne_eq_false_iff_eq.mpr c5
    clear c5
    by_cases c6 : a0 = 2
    · rw [if_pos c6] at H
      have c6b0 : (a0 == 2) = true := beq_iff_eq.mpr c6
      have c6b1 : (a0 != 2) = false := bne_eq_false_iff_eq.mpr c6
      clear c6
      replace H := Option.bind_eq_some_iff.mp H
      obtain ⟨t176, A70, H⟩ := H
      replace H : (some (t176, 0)) = some (r1, r2) := H
      have A7 := Aside0.mk A70
      clear A70
      simp only [Option.some.injEq, Prod.mk.injEq] at H
      obtain ⟨rfl, rfl⟩ := H
      go_enter Try.func35, Try.ntmps35
      go_wp2_with (first | ((with_reducible refine gate_callee (f := 50) rfl ?_); refine goesL_ (some 12) rfl rfl Try.func50 (by kernel_rfl) rfl #[.int .i64 a0, .int .i64 a1, .int .i64 a2] rfl (by (try simp only [List.map_toArray, List.map_cons, List.map_nil]); first | done | rfl | (simp only [List.length_drop, List.length_take]; rfl)) ?_; (with_reducible refine (passbookref04_Check.calls k a0 a1 a2 t175 _ A4.out).mono ?_); rintro e w' ⟨rfl, ⟨nd, rfl⟩⟩; refine ⟨_, rfl, ?_⟩) | ((with_reducible refine gate_callee (f := 52) rfl ?_); refine goesL_ (some 20) rfl rfl Try.func52 (by kernel_rfl) rfl #[.int .i64 a1, .int .i64 a2] rfl (by (try simp only [List.map_toArray, List.map_cons, List.map_nil]); first | done | rfl | (simp only [List.length_drop, List.length_take]; rfl)) ?_; (with_reducible refine (passbookref04_Thirty.calls k a1 a2 t176 _ A7.out).mono ?_); rintro e w' ⟨rfl, ⟨nd, rfl⟩⟩; refine ⟨_, rfl, ?_⟩))
      go_ret2
      exact ⟨by first | rfl | (simp; done) | (simp [*]; done), by repeat (first | exact Drawn0.refl _ | apply Drawn0.step)⟩
    · rw [if_neg c6] at H
      have c6b0 : (a0 == 2) = false := beq_eq_false_iff_ne.mpr c6
      have c6b1 : (a0 != 2) = true := bne_iff_ne.mpr c6
      simp only [Option.some.injEq, Prod.mk.injEq] at H
      obtain ⟨rfl, rfl⟩ := H
      go_enter Try.func35, Try.ntmps35
      go_wp2_with (first | ((with_reducible refine gate_callee (f := 50) rfl ?_); refine goesL_ (some 12) rfl rfl Try.func50 (by kernel_rfl) rfl #[.int .i64 a0, .int .i64 a1, .int .i64 a2] rfl (by (try simp only [List.map_toArray, List.map_cons, List.map_nil]); first | done | rfl | (simp only [List.length_drop, List.length_take]; rfl)) ?_; (with_reducible refine (passbookref04_Check.calls k a0 a1 a2 t175 _ A4.out).mono ?_); rintro e w' ⟨rfl, ⟨nd, rfl⟩⟩; refine ⟨_, rfl, ?_⟩))
      go_ret2
      exact ⟨by first | rfl | (simp; done) | (simp [*]; done), by repeat (first | exact Drawn0.refl _ | apply Drawn0.step)⟩
  · rw [if_neg c5] at H
    have c5b0 : (t175 == 0) = false := beq_eq_false_iff_ne.mpr c5
    have c5b1 : (t175 != 0) = true := bne_iff_ne.mpr c5
    simp only [Option.some.injEq, Prod.mk.injEq] at H
    obtain ⟨rfl, rfl⟩ := H
    go_enter Try.func35, Try.ntmps35
    go_wp2_with (first | ((with_reducible refine gate_callee (f := 50) rfl ?_); refine goesL_ (some 12) rfl rfl Try.func50 (by kernel_rfl) rfl #[.int .i64 a0, .int .i64 a1, .int .i64 a2] rfl (by (try simp only [List.map_toArray, List.map_cons, List.map_nil]); first | done | rfl | (simp only [List.length_drop, List.length_take]; rfl)) ?_; (with_reducible refine (passbookref04_Check.calls k a0 a1 a2 t175 _ A4.out).mono ?_); rintro e w' ⟨rfl, ⟨nd, rfl⟩⟩; refine ⟨_, rfl, ?_⟩))
    go_ret2
    exact ⟨by first | rfl | (simp; done) | (simp [*]; done), by repeat (first | exact Drawn0.refl _ | apply Drawn0.step)⟩

end Go.Proofs.Ytemijfjchoimpaa.PBasisParts

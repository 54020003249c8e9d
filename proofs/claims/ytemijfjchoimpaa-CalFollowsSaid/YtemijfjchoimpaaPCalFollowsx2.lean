-- PRINTED BY print.sh 35421559b90ae4d0a3588c463048766b98c2df88dd9212a6774a882060cdf62d: not written by this session
import Derived.Test.YtemijfjchoimpaaPCalFollowsx0
import Derived.Test.YtemijfjchoimpaaPCalFollowsx1
namespace Go.Proofs.Ytemijfjchoimpaa.PCalFollows
open Go.RowKit Go.Proofs.YtemijfjchoimpaaW.PrintWords Go.Proofs.YtemijfjchoimpaaW.PrintLast Go.Proofs.YtemijfjchoimpaaW.PrintMore
attribute [local go_sem] max2_int min2_int max_two min_two max_three min_three max_four min_four   -- for this text's walks alone
set_option linter.unusedVariables false
set_option linter.unusedSimpArgs false

/-! ### passbooklaw03_awake: function 13 -/
def passbooklaw03_awake.f (k : Nat)  : Option (Bool) := (cal_Number.f k 1970 1 1).bind fun bt121 => ((cal_Weekday.f bt121.1).bind fun bt123 => ((cal_Write.f k 1).bind fun bt125 => (if bt121.2 = 0 then (if bt121.1 = 719163 then (if bt123.2 = 0 then (if bt123.1 = 3 then (if bt125.2 = 0 then (some (bt125.1.toList == ([48, 48, 48, 49, 45, 48, 49, 45, 48, 49] : List UInt8))) else (some false)) else (some false)) else (some false)) else (some false)) else (some false))))
theorem passbooklaw03_awake.mono : ∀ k, LeO (passbooklaw03_awake.f k ) (passbooklaw03_awake.f (k + 1) ) := by
  intro  k
  unfold passbooklaw03_awake.f
  repeat' first
      | (with_reducible exact cal_Number.mono _ _ _ _)
      | (with_reducible exact cal_Write.mono _ _)
      | (with_reducible exact LeO.refl _)
      | (with_reducible exact LeO.none _)
      | (with_reducible refine LeO.ite ?_ ?_)
      | (with_reducible refine LeO.bind ?_ (fun _ => ?_))
      | exact cal_Number.mono _ _ _ _
      | exact cal_Write.mono _ _
      | exact LeO.none _
      | refine LeO.ite ?_ ?_
      | refine LeO.bind ?_ (fun _ => ?_)
set_option maxHeartbeats 8000000 in
set_option maxRecDepth 100000 in
theorem passbooklaw03_awake.calls (k : Nat)  (r : Bool) (w : World) (h : passbooklaw03_awake.f k  = some r) :
    Calls Try.prog 13 #[] w fun e w' => e = .returned (.bool r) ∧ Below w.heap.size w w' := by
  have HB := Aside0.mk (Below.refl w.heap.size w)
  have H : ((cal_Number.f k 1970 1 1).bind fun bt121 => ((cal_Weekday.f bt121.1).bind fun bt123 => ((cal_Write.f k 1).bind fun bt125 => (if bt121.2 = 0 then (if bt121.1 = 719163 then (if bt123.2 = 0 then (if bt123.1 = 3 then (if bt125.2 = 0 then (some (bt125.1.toList == ([48, 48, 48, 49, 45, 48, 49, 45, 48, 49] : List UInt8))) else (some false)) else (some false)) else (some false)) else (some false)) else (some false))))) = some r := h
  clear h
  replace H := Option.bind_eq_some_iff.mp H
  obtain ⟨⟨t121, t122⟩, A10, H⟩ := H
  replace H : ((cal_Weekday.f t121).bind fun bt123 => ((cal_Write.f k 1).bind fun bt125 => (if t122 = 0 then (if t121 = 719163 then (if bt123.2 = 0 then (if bt123.1 = 3 then (if bt125.2 = 0 then (some (bt125.1.toList == ([48, 48, 48, 49, 45, 48, 49, 45, 48, 49] : List UInt8))) else (some false)) else (some false)) else (some false)) else (some false)) else (some false)))) = some r := H
  have A1 := Aside0.mk A10
  clear A10
  replace H := Option.bind_eq_some_iff.mp H
  obtain ⟨⟨t123, t124⟩, A20, H⟩ := H
  replace H : ((cal_Write.f k 1).bind fun bt125 => (if t122 = 0 then (if t121 = 719163 then (if t124 = 0 then (if t123 = 3 then (if bt125.2 = 0 then (some (bt125.1.toList == ([48, 48, 48, 49, 45, 48, 49, 45, 48, 49] : List UInt8))) else (some false)) else (some false)) else (some false)) else (some false)) else (some false))) = some r := H
  have A2 := Aside0.mk A20
  clear A20
  replace H := Option.bind_eq_some_iff.mp H
  obtain ⟨⟨t125, t126⟩, A30, H⟩ := H
  replace H : (if t122 = 0 then (if t121 = 719163 then (if t124 = 0 then (if t123 = 3 then (if t126 = 0 then (some (t125.toList == ([48, 48, 48, 49, 45, 48, 49, 45, 48, 49] : List UInt8))) else (some false)) else (some false)) else (some false)) else (some false)) else (some false)) = some r := H
  have A3 := Aside0.mk A30
  clear A30
  by_cases c4 : t122 = 0
  · rw [if_pos c4] at H
    have c4b0 : (t122 == 0) = true := beq_iff_eq.mpr c4
    have c4b1 : (t122 != 0) = false := bne_eq_false_iff_eq.mpr c4
    clear c4
    by_cases c5 : t121 = 719163
    · rw [if_pos c5] at H
      have c5b0 : (t121 == 719163) = true := beq_iff_eq.mpr c5
      have c5b1 : (t121 != 719163) = false := bne_eq_false_iff_eq.mpr c5
      clear c5
      by_cases c6 : t124 = 0
      · rw [if_pos c6] at H
        have c6b0 : (t124 == 0) = true := beq_iff_eq.mpr c6
        have c6b1 : (t124 != 0) = false := bne_eq_false_iff_eq.mpr c6
        clear c6
        by_cases c7 : t123 = 3
        · rw [if_pos c7] at H
          have c7b0 : (t123 == 3) = true := beq_iff_eq.mpr c7
          have c7b1 : (t123 != 3) = false := bne_eq_false_iff_eq.mpr c7
          clear c7
          by_cases c8 : t126 = 0
          · rw [if_pos c8] at H
            have c8b0 : (t126 == 0) = true := beq_iff_eq.mpr c8
            have c8b1 : (t126 != 0) = false := bne_eq_false_iff_eq.mpr c8
            clear c8
            obtain rfl := Option.some.inj H
            go_enter Try.func13, Try.ntmps13
            go_wp2_with (first | ((with_reducible refine gate_callee (f := 19) rfl ?_); refine goesL_ (some 8) rfl rfl Try.func19 (by kernel_rfl) rfl #[.int .i64 1970, .int .i64 1, .int .i64 1] rfl (by (try simp only [List.map_toArray, List.map_cons, List.map_nil]); first | done | rfl | (simp only [List.length_drop, List.length_take]; rfl)) ?_; (with_reducible refine (cal_Number.calls k 1970 1 1 t121 t122 _ A1.out).mono ?_); rintro e w' ⟨rfl, ⟨nd, rfl⟩⟩; refine ⟨_, rfl, ?_⟩) | ((with_reducible refine gate_callee (f := 15) rfl ?_); refine goesL_ (some 13) rfl rfl Try.func15 (by kernel_rfl) rfl #[.int .i64 t121] rfl (by (try simp only [List.map_toArray, List.map_cons, List.map_nil]); first | done | rfl | (simp only [List.length_drop, List.length_take]; rfl)) ?_; (with_reducible refine (cal_Weekday.calls t121 t123 t124 _ A2.out).mono ?_); rintro e w' ⟨rfl, ⟨nd, rfl⟩⟩; refine ⟨_, rfl, ?_⟩) | ((with_reducible refine gate_callee (f := 24) rfl ?_); refine goesL_ (some 17) rfl rfl Try.func24 (by kernel_rfl) rfl #[.int .i64 1] rfl (by (try simp only [List.map_toArray, List.map_cons, List.map_nil]); first | done | rfl | (simp only [List.length_drop, List.length_take]; rfl)) ?_; (with_reducible refine (cal_Write.calls k 1 t125 t126 _ A3.out).mono ?_); rintro e w9 ⟨rfl, hb⟩; refine ⟨_, rfl, ?_⟩; have n0_ := Aside0.mk (below_step (by repeat (first | (with_reducible first | exact HB.out | apply below_alloc | apply pw_below_drewN | apply below_drew1) | exact HB.out)) hb); clear HB; have HB := n0_; clear n0_; (try clear hb); (try clear hb2); (try clear hk); (try clear hi)))
            go_ret
            exact ⟨by first | rfl | (simp [errW_none, errW_some] <;> rfl) | (simp [*, errW_none, errW_some] <;> rfl), by repeat (first | (with_reducible first | exact HB.out | apply below_alloc | apply pw_below_drewN | apply below_drew1) | exact HB.out)⟩
          · rw [if_neg c8] at H
            have c8b0 : (t126 == 0) = false := beq_eq_false_iff_ne.mpr c8
            have c8b1 : (t126 != 0) = true := bne_iff_ne.mpr c8
            obtain rfl := Option.some.inj H
            go_enter Try.func13, Try.ntmps13
            go_wp2_with (first | ((with_reducible refine gate_callee (f := 19) rfl ?_); refine goesL_ (some 8) rfl rfl Try.func19 (by kernel_rfl) rfl #[.int .i64 1970, .int .i64 1, .int .i64 1] rfl (by (try simp only [List.map_toArray, List.map_cons, List.map_nil]); first | done | rfl | (simp only [List.length_drop, List.length_take]; rfl)) ?_; (with_reducible refine (cal_Number.calls k 1970 1 1 t121 t122 _ A1.out).mono ?_); rintro e w' ⟨rfl, ⟨nd, rfl⟩⟩; refine ⟨_, rfl, ?_⟩) | ((with_reducible refine gate_callee (f := 15) rfl ?_); refine goesL_ (some 13) rfl rfl Try.func15 (by kernel_rfl) rfl #[.int .i64 t121] rfl (by (try simp only [List.map_toArray, List.map_cons, List.map_nil]); first | done | rfl | (simp only [List.length_drop, List.length_take]; rfl)) ?_; (with_reducible refine (cal_Weekday.calls t121 t123 t124 _ A2.out).mono ?_); rintro e w' ⟨rfl, ⟨nd, rfl⟩⟩; refine ⟨_, rfl, ?_⟩) | ((with_reducible refine gate_callee (f := 24) rfl ?_); refine goesL_ (some 17) rfl rfl Try.func24 (by kernel_rfl) rfl #[.int .i64 1] rfl (by (try simp only [List.map_toArray, List.map_cons, List.map_nil]); first | done | rfl | (simp only [List.length_drop, List.length_take]; rfl)) ?_; (with_reducible refine (cal_Write.calls k 1 t125 t126 _ A3.out).mono ?_); rintro e w10 ⟨rfl, hb⟩; refine ⟨_, rfl, ?_⟩; have n0_ := Aside0.mk (below_step (by repeat (first | (with_reducible first | exact HB.out | apply below_alloc | apply pw_below_drewN | apply below_drew1) | exact HB.out)) hb); clear HB; have HB := n0_; clear n0_; (try clear hb); (try clear hb2); (try clear hk); (try clear hi)))
            go_ret
            exact ⟨by first | rfl | (simp [errW_none, errW_some] <;> rfl) | (simp [*, errW_none, errW_some] <;> rfl), by repeat (first | (with_reducible first | exact HB.out | apply below_alloc | apply pw_below_drewN | apply below_drew1) | exact HB.out)⟩
        · rw [if_neg c7] at H
          have c7b0 : (t123 == 3) = false := beq_eq_false_iff_ne.mpr c7
          have c7b1 : (t123 != 3) = true := bne_iff_ne.mpr c7
          obtain rfl := Option.some.inj H
          go_enter Try.func13, Try.ntmps13
          go_wp2_with (first | ((with_reducible refine gate_callee (f := 19) rfl ?_); refine goesL_ (some 8) rfl rfl Try.func19 (by kernel_rfl) rfl #[.int .i64 1970, .int .i64 1, .int .i64 1] rfl (by (try simp only [List.map_toArray, List.map_cons, List.map_nil]); first | done | rfl | (simp only [List.length_drop, List.length_take]; rfl)) ?_; (with_reducible refine (cal_Number.calls k 1970 1 1 t121 t122 _ A1.out).mono ?_); rintro e w' ⟨rfl, ⟨nd, rfl⟩⟩; refine ⟨_, rfl, ?_⟩) | ((with_reducible refine gate_callee (f := 15) rfl ?_); refine goesL_ (some 13) rfl rfl Try.func15 (by kernel_rfl) rfl #[.int .i64 t121] rfl (by (try simp only [List.map_toArray, List.map_cons, List.map_nil]); first | done | rfl | (simp only [List.length_drop, List.length_take]; rfl)) ?_; (with_reducible refine (cal_Weekday.calls t121 t123 t124 _ A2.out).mono ?_); rintro e w' ⟨rfl, ⟨nd, rfl⟩⟩; refine ⟨_, rfl, ?_⟩) | ((with_reducible refine gate_callee (f := 24) rfl ?_); refine goesL_ (some 17) rfl rfl Try.func24 (by kernel_rfl) rfl #[.int .i64 1] rfl (by (try simp only [List.map_toArray, List.map_cons, List.map_nil]); first | done | rfl | (simp only [List.length_drop, List.length_take]; rfl)) ?_; (with_reducible refine (cal_Write.calls k 1 t125 t126 _ A3.out).mono ?_); rintro e w11 ⟨rfl, hb⟩; refine ⟨_, rfl, ?_⟩; have n0_ := Aside0.mk (below_step (by repeat (first | (with_reducible first | exact HB.out | apply below_alloc | apply pw_below_drewN | apply below_drew1) | exact HB.out)) hb); clear HB; have HB := n0_; clear n0_; (try clear hb); (try clear hb2); (try clear hk); (try clear hi)))
          go_ret
          exact ⟨by first | rfl | (simp [errW_none, errW_some] <;> rfl) | (simp [*, errW_none, errW_some] <;> rfl), by repeat (first | (with_reducible first | exact HB.out | apply below_alloc | apply pw_below_drewN | apply below_drew1) | exact HB.out)⟩
      · rw [if_neg c6] at H
        have c6b0 : (t124 == 0) = false := beq_eq_false_iff_ne.mpr c6
        have c6b1 : (t124 != 0) = true := bne_iff_ne.mpr c6
        obtain rfl := Option.some.inj H
        go_enter Try.func13, Try.ntmps13
        go_wp2_with (first | ((with_reducible refine gate_callee (f := 19) rfl ?_); refine goesL_ (some 8) rfl rfl Try.func19 (by kernel_rfl) rfl #[.int .i64 1970, .int .i64 1, .int .i64 1] rfl (by (try simp only [List.map_toArray, List.map_cons, List.map_nil]); first | done | rfl | (simp only [List.length_drop, List.length_take]; rfl)) ?_; (with_reducible refine (cal_Number.calls k 1970 1 1 t121 t122 _ A1.out).mono ?_); rintro e w' ⟨rfl, ⟨nd, rfl⟩⟩; refine ⟨_, rfl, ?_⟩) | ((with_reducible refine gate_callee (f := 15) rfl ?_); refine goesL_ (some 13) rfl rfl Try.func15 (by kernel_rfl) rfl #[.int .i64 t121] rfl (by (try simp only [List.map_toArray, List.map_cons, List.map_nil]); first | done | rfl | (simp only [List.length_drop, List.length_take]; rfl)) ?_; (with_reducible refine (cal_Weekday.calls t121 t123 t124 _ A2.out).mono ?_); rintro e w' ⟨rfl, ⟨nd, rfl⟩⟩; refine ⟨_, rfl, ?_⟩) | ((with_reducible refine gate_callee (f := 24) rfl ?_); refine goesL_ (some 17) rfl rfl Try.func24 (by kernel_rfl) rfl #[.int .i64 1] rfl (by (try simp only [List.map_toArray, List.map_cons, List.map_nil]); first | done | rfl | (simp only [List.length_drop, List.length_take]; rfl)) ?_; (with_reducible refine (cal_Write.calls k 1 t125 t126 _ A3.out).mono ?_); rintro e w12 ⟨rfl, hb⟩; refine ⟨_, rfl, ?_⟩; have n0_ := Aside0.mk (below_step (by repeat (first | (with_reducible first | exact HB.out | apply below_alloc | apply pw_below_drewN | apply below_drew1) | exact HB.out)) hb); clear HB; have HB := n0_; clear n0_; (try clear hb); (try clear hb2); (try clear hk); (try clear hi)))
        go_ret
        exact ⟨by first | rfl | (simp [errW_none, errW_some] <;> rfl) | (simp [*, errW_none, errW_some] <;> rfl), by repeat (first | (with_reducible first | exact HB.out | apply below_alloc | apply pw_below_drewN | apply below_drew1) | exact HB.out)⟩
    · rw [if_neg c5] at H
      have c5b0 : (t121 == 719163) = false := beq_eq_false_iff_ne.mpr c5
      have c5b1 : (t121 != 719163) = true := bne_iff_ne.mpr c5
      obtain rfl := Option.some.inj H
      go_enter Try.func13, Try.ntmps13
      go_wp2_with (first | ((with_reducible refine gate_callee (f := 19) rfl ?_); refine goesL_ (some 8) rfl rfl Try.func19 (by kernel_rfl) rfl #[.int .i64 1970, .int .i64 1, .int .i64 1] rfl (by (try simp only [List.map_toArray, List.map_cons, List.map_nil]); first | done | rfl | (simp only [List.length_drop, List.length_take]; rfl)) ?_; (with_reducible refine (cal_Number.calls k 1970 1 1 t121 t122 _ A1.out).mono ?_); rintro e w' ⟨rfl, ⟨nd, rfl⟩⟩; refine ⟨_, rfl, ?_⟩) | ((with_reducible refine gate_callee (f := 15) rfl ?_); refine goesL_ (some 13) rfl rfl Try.func15 (by kernel_rfl) rfl #[.int .i64 t121] rfl (by (try simp only [List.map_toArray, List.map_cons, List.map_nil]); first | done | rfl | (simp only [List.length_drop, List.length_take]; rfl)) ?_; (with_reducible refine (cal_Weekday.calls t121 t123 t124 _ A2.out).mono ?_); rintro e w' ⟨rfl, ⟨nd, rfl⟩⟩; refine ⟨_, rfl, ?_⟩) | ((with_reducible refine gate_callee (f := 24) rfl ?_); refine goesL_ (some 17) rfl rfl Try.func24 (by kernel_rfl) rfl #[.int .i64 1] rfl (by (try simp only [List.map_toArray, List.map_cons, List.map_nil]); first | done | rfl | (simp only [List.length_drop, List.length_take]; rfl)) ?_; (with_reducible refine (cal_Write.calls k 1 t125 t126 _ A3.out).mono ?_); rintro e w13 ⟨rfl, hb⟩; refine ⟨_, rfl, ?_⟩; have n0_ := Aside0.mk (below_step (by repeat (first | (with_reducible first | exact HB.out | apply below_alloc | apply pw_below_drewN | apply below_drew1) | exact HB.out)) hb); clear HB; have HB := n0_; clear n0_; (try clear hb); (try clear hb2); (try clear hk); (try clear hi)))
      go_ret
      exact ⟨by first | rfl | (simp [errW_none, errW_some] <;> rfl) | (simp [*, errW_none, errW_some] <;> rfl), by repeat (first | (with_reducible first | exact HB.out | apply below_alloc | apply pw_below_drewN | apply below_drew1) | exact HB.out)⟩
  · rw [if_neg c4] at H
    have c4b0 : (t122 == 0) = false := beq_eq_false_iff_ne.mpr c4
    have c4b1 : (t122 != 0) = true := bne_iff_ne.mpr c4
    obtain rfl := Option.some.inj H
    go_enter Try.func13, Try.ntmps13
    go_wp2_with (first | ((with_reducible refine gate_callee (f := 19) rfl ?_); refine goesL_ (some 8) rfl rfl Try.func19 (by kernel_rfl) rfl #[.int .i64 1970, .int .i64 1, .int .i64 1] rfl (by (try simp only [List.map_toArray, List.map_cons, List.map_nil]); first | done | rfl | (simp only [List.length_drop, List.length_take]; rfl)) ?_; (with_reducible refine (cal_Number.calls k 1970 1 1 t121 t122 _ A1.out).mono ?_); rintro e w' ⟨rfl, ⟨nd, rfl⟩⟩; refine ⟨_, rfl, ?_⟩) | ((with_reducible refine gate_callee (f := 15) rfl ?_); refine goesL_ (some 13) rfl rfl Try.func15 (by kernel_rfl) rfl #[.int .i64 t121] rfl (by (try simp only [List.map_toArray, List.map_cons, List.map_nil]); first | done | rfl | (simp only [List.length_drop, List.length_take]; rfl)) ?_; (with_reducible refine (cal_Weekday.calls t121 t123 t124 _ A2.out).mono ?_); rintro e w' ⟨rfl, ⟨nd, rfl⟩⟩; refine ⟨_, rfl, ?_⟩) | ((with_reducible refine gate_callee (f := 24) rfl ?_); refine goesL_ (some 17) rfl rfl Try.func24 (by kernel_rfl) rfl #[.int .i64 1] rfl (by (try simp only [List.map_toArray, List.map_cons, List.map_nil]); first | done | rfl | (simp only [List.length_drop, List.length_take]; rfl)) ?_; (with_reducible refine (cal_Write.calls k 1 t125 t126 _ A3.out).mono ?_); rintro e w14 ⟨rfl, hb⟩; refine ⟨_, rfl, ?_⟩; have n0_ := Aside0.mk (below_step (by repeat (first | (with_reducible first | exact HB.out | apply below_alloc | apply pw_below_drewN | apply below_drew1) | exact HB.out)) hb); clear HB; have HB := n0_; clear n0_; (try clear hb); (try clear hb2); (try clear hk); (try clear hi)))
    go_ret
    exact ⟨by first | rfl | (simp [errW_none, errW_some] <;> rfl) | (simp [*, errW_none, errW_some] <;> rfl), by repeat (first | (with_reducible first | exact HB.out | apply below_alloc | apply pw_below_drewN | apply below_drew1) | exact HB.out)⟩

/-! ### cal_Civil: function 14 -/
def cal_Civil.f (k : Nat) (a0 : Int) : Option (Int × Int × Int × Int) := (cal_is.f a0).bind fun t127 => (if t127 = true then ((cal_civil.f k a0).bind fun bt128 => (some (bt128.1, bt128.2.1, bt128.2.2, 0))) else (some (0, 0, 0, 1)))
theorem cal_Civil.mono : ∀ a0 k, LeO (cal_Civil.f k a0) (cal_Civil.f (k + 1) a0) := by
  intro a0 k
  unfold cal_Civil.f
  repeat' first
      | (with_reducible exact cal_civil.mono _ _)
      | (with_reducible exact LeO.refl _)
      | (with_reducible exact LeO.none _)
      | (with_reducible refine LeO.ite ?_ ?_)
      | (with_reducible refine LeO.bind ?_ (fun _ => ?_))
      | exact cal_civil.mono _ _
      | exact LeO.none _
      | refine LeO.ite ?_ ?_
      | refine LeO.bind ?_ (fun _ => ?_)
set_option maxHeartbeats 8000000 in
set_option maxRecDepth 100000 in
theorem cal_Civil.calls (k : Nat) (a0 : Int) (r1 : Int) (r2 : Int) (r3 : Int) (r4 : Int) (w : World) (h : cal_Civil.f k a0 = some (r1, r2, r3, r4)) :
    Calls Try.prog 14 #[.int .i64 a0] w fun e w' => e = .returned (.tuple #[.int .i64 r1, .int .i64 r2, .int .i64 r3, .int .i64 r4]) ∧ Drawn0 w w' := by
  have H : ((cal_is.f a0).bind fun t127 => (if t127 = true then ((cal_civil.f k a0).bind fun bt128 => (some (bt128.1, bt128.2.1, bt128.2.2, 0))) else (some (0, 0, 0, 1)))) = some (r1, r2, r3, r4) := h
  clear h
  replace H := Option.bind_eq_some_iff.mp H
  obtain ⟨t127, A20, H⟩ := H
  replace H : (if t127 = true then ((cal_civil.f k a0).bind fun bt128 => (some (bt128.1, bt128.2.1, bt128.2.2, 0))) else (some (0, 0, 0, 1))) = some (r1, r2, r3, r4) := H
  have A2 := Aside0.mk A20
  clear A20
  by_cases c3 : t127 = true
  · subst c3
    have H1 : ((cal_civil.f k a0).bind fun bt128 => (some (bt128.1, bt128.2.1, bt128.2.2, 0))) = some (r1, r2, r3, r4) := by rw [if_pos rfl] at H; exact H
    clear H
    have H := H1
    clear H1
    replace H := Option.bind_eq_some_iff.mp H
    obtain ⟨⟨t128, t129, t130⟩, A40, H⟩ := H
    replace H : (some (t128, t129, t130, 0)) = some (r1, r2, r3, r4) := H
    have A4 := Aside0.mk A40
    clear A40
    simp only [Option.some.injEq, Prod.mk.injEq] at H
    obtain ⟨rfl, rfl, rfl, rfl⟩ := H
    go_enter Try.func14, Try.ntmps14
    go_wp2_with (first | ((with_reducible refine gate_callee (f := 38) rfl ?_); refine goesL_ (some 10) rfl rfl Try.func38 (by kernel_rfl) rfl #[.int .i64 a0] rfl (by (try simp only [List.map_toArray, List.map_cons, List.map_nil]); first | done | rfl | (simp only [List.length_drop, List.length_take]; rfl)) ?_; (with_reducible refine (cal_is.calls a0 true _ A2.out).mono ?_); rintro e w' ⟨rfl, ⟨nd, rfl⟩⟩; refine ⟨_, rfl, ?_⟩) | ((with_reducible refine gate_callee (f := 39) rfl ?_); refine goesL_ (some 14) rfl rfl Try.func39 (by kernel_rfl) rfl #[.int .i64 a0] rfl (by (try simp only [List.map_toArray, List.map_cons, List.map_nil]); first | done | rfl | (simp only [List.length_drop, List.length_take]; rfl)) ?_; (with_reducible refine (cal_civil.calls k a0 t128 t129 t130 _ A4.out).mono ?_); rintro e w' ⟨rfl, ⟨nd, rfl⟩⟩; refine ⟨_, rfl, ?_⟩))
    refine bodyPost_ret (results_list (rs := [.tmp 2, .tmp 3, .tmp 4, .tmp 5]) rfl (by simp) (.tmp (.tmp (.tmp (.tmp .nil))))) rfl ?_
    exact ⟨by first | rfl | (simp; done) | (simp [*]; done), by repeat (first | exact Drawn0.refl _ | apply Drawn0.step)⟩
  · replace c3 := Bool.eq_false_iff.mpr c3
    subst c3
    have H1 : (some (0, 0, 0, 1)) = some (r1, r2, r3, r4) := by rw [if_neg (show ¬ (false = true) by decide)] at H; exact H
    clear H
    have H := H1
    clear H1
    simp only [Option.some.injEq, Prod.mk.injEq] at H
    obtain ⟨rfl, rfl, rfl, rfl⟩ := H
    go_enter Try.func14, Try.ntmps14
    go_wp2_with (first | ((with_reducible refine gate_callee (f := 38) rfl ?_); refine goesL_ (some 10) rfl rfl Try.func38 (by kernel_rfl) rfl #[.int .i64 a0] rfl (by (try simp only [List.map_toArray, List.map_cons, List.map_nil]); first | done | rfl | (simp only [List.length_drop, List.length_take]; rfl)) ?_; (with_reducible refine (cal_is.calls a0 false _ A2.out).mono ?_); rintro e w' ⟨rfl, ⟨nd, rfl⟩⟩; refine ⟨_, rfl, ?_⟩))
    refine bodyPost_ret (results_list (rs := [.tmp 2, .tmp 3, .tmp 4, .tmp 5]) rfl (by simp) (.tmp (.tmp (.tmp (.tmp .nil))))) rfl ?_
    exact ⟨by first | rfl | (simp; done) | (simp [*]; done), by repeat (first | exact Drawn0.refl _ | apply Drawn0.step)⟩

/-! ### cal_MonthEnd: function 16 -/
def cal_MonthEnd.f (k : Nat) (a0 : Int) : Option (Bool × Int) := (cal_is.f a0).bind fun t131 => (if t131 = true then ((cal_civil.f k a0).bind fun bt132 => ((cal_length.f k bt132.1 bt132.2.1).bind fun t135 => (some ((bt132.2.2 == t135), 0)))) else (some (false, 1)))
theorem cal_MonthEnd.mono : ∀ a0 k, LeO (cal_MonthEnd.f k a0) (cal_MonthEnd.f (k + 1) a0) := by
  intro a0 k
  unfold cal_MonthEnd.f
  repeat' first
      | (with_reducible exact cal_civil.mono _ _)
      | (with_reducible exact cal_length.mono _ _ _)
      | (with_reducible exact LeO.refl _)
      | (with_reducible exact LeO.none _)
      | (with_reducible refine LeO.ite ?_ ?_)
      | (with_reducible refine LeO.bind ?_ (fun _ => ?_))
      | exact cal_civil.mono _ _
      | exact cal_length.mono _ _ _
      | exact LeO.none _
      | refine LeO.ite ?_ ?_
      | refine LeO.bind ?_ (fun _ => ?_)
set_option maxHeartbeats 8000000 in
set_option maxRecDepth 100000 in
theorem cal_MonthEnd.calls (k : Nat) (a0 : Int) (r1 : Bool) (r2 : Int) (w : World) (h : cal_MonthEnd.f k a0 = some (r1, r2)) :
    Calls Try.prog 16 #[.int .i64 a0] w fun e w' => e = .returned (.tuple #[.bool r1, .int .i64 r2]) ∧ Drawn0 w w' := by
  have H : ((cal_is.f a0).bind fun t131 => (if t131 = true then ((cal_civil.f k a0).bind fun bt132 => ((cal_length.f k bt132.1 bt132.2.1).bind fun t135 => (some ((bt132.2.2 == t135), 0)))) else (some (false, 1)))) = some (r1, r2) := h
  clear h
  replace H := Option.bind_eq_some_iff.mp H
  obtain ⟨t131, A20, H⟩ := H
  replace H : (if t131 = true then ((cal_civil.f k a0).bind fun bt132 => ((cal_length.f k bt132.1 bt132.2.1).bind fun t135 => (some ((bt132.2.2 == t135), 0)))) else (some (false, 1))) = some (r1, r2) := H
  have A2 := Aside0.mk A20
  clear A20
  by_cases c3 : t131 = true
  · subst c3
    have H1 : ((cal_civil.f k a0).bind fun bt132 => ((cal_length.f k bt132.1 bt132.2.1).bind fun t135 => (some ((bt132.2.2 == t135), 0)))) = some (r1, r2) := by rw [if_pos rfl] at H; exact H
    clear H
    have H := H1
    clear H1
    replace H := Option.bind_eq_some_iff.mp H
    obtain ⟨⟨t132, t133, t134⟩, A40, H⟩ := H
    replace H : ((cal_length.f k t132 t133).bind fun t135 => (some ((t134 == t135), 0))) = some (r1, r2) := H
    have A4 := Aside0.mk A40
    clear A40
    replace H := Option.bind_eq_some_iff.mp H
    obtain ⟨t135, A50, H⟩ := H
    replace H : (some ((t134 == t135), 0)) = some (r1, r2) := H
    have A5 := Aside0.mk A50
    clear A50
    simp only [Option.some.injEq, Prod.mk.injEq] at H
    obtain ⟨rfl, rfl⟩ := H
    go_enter Try.func16, Try.ntmps16
    go_wp2_with (first | ((with_reducible refine gate_callee (f := 38) rfl ?_); refine goesL_ (some 8) rfl rfl Try.func38 (by kernel_rfl) rfl #[.int .i64 a0] rfl (by (try simp only [List.map_toArray, List.map_cons, List.map_nil]); first | done | rfl | (simp only [List.length_drop, List.length_take]; rfl)) ?_; (with_reducible refine (cal_is.calls a0 true _ A2.out).mono ?_); rintro e w' ⟨rfl, ⟨nd, rfl⟩⟩; refine ⟨_, rfl, ?_⟩) | ((with_reducible refine gate_callee (f := 39) rfl ?_); refine goesL_ (some 12) rfl rfl Try.func39 (by kernel_rfl) rfl #[.int .i64 a0] rfl (by (try simp only [List.map_toArray, List.map_cons, List.map_nil]); first | done | rfl | (simp only [List.length_drop, List.length_take]; rfl)) ?_; (with_reducible refine (cal_civil.calls k a0 t132 t133 t134 _ A4.out).mono ?_); rintro e w' ⟨rfl, ⟨nd, rfl⟩⟩; refine ⟨_, rfl, ?_⟩) | ((with_reducible refine gate_callee (f := 40) rfl ?_); refine goesL_ (some 19) rfl rfl Try.func40 (by kernel_rfl) rfl #[.int .i64 t132, .int .i64 t133] rfl (by (try simp only [List.map_toArray, List.map_cons, List.map_nil]); first | done | rfl | (simp only [List.length_drop, List.length_take]; rfl)) ?_; (with_reducible refine (cal_length.calls k t132 t133 t135 _ A5.out).mono ?_); rintro e w' ⟨rfl, ⟨nd, rfl⟩⟩; refine ⟨_, rfl, ?_⟩))
    go_ret2
    exact ⟨by first | rfl | (simp; done) | (simp [*]; done), by repeat (first | exact Drawn0.refl _ | apply Drawn0.step)⟩
  · replace c3 := Bool.eq_false_iff.mpr c3
    subst c3
    have H1 : (some (false, 1)) = some (r1, r2) := by rw [if_neg (show ¬ (false = true) by decide)] at H; exact H
    clear H
    have H := H1
    clear H1
    simp only [Option.some.injEq, Prod.mk.injEq] at H
    obtain ⟨rfl, rfl⟩ := H
    go_enter Try.func16, Try.ntmps16
    go_wp2_with (first | ((with_reducible refine gate_callee (f := 38) rfl ?_); refine goesL_ (some 8) rfl rfl Try.func38 (by kernel_rfl) rfl #[.int .i64 a0] rfl (by (try simp only [List.map_toArray, List.map_cons, List.map_nil]); first | done | rfl | (simp only [List.length_drop, List.length_take]; rfl)) ?_; (with_reducible refine (cal_is.calls a0 false _ A2.out).mono ?_); rintro e w' ⟨rfl, ⟨nd, rfl⟩⟩; refine ⟨_, rfl, ?_⟩))
    go_ret2
    exact ⟨by first | rfl | (simp; done) | (simp [*]; done), by repeat (first | exact Drawn0.refl _ | apply Drawn0.step)⟩

/-! ### passbooklaw03_CalFollows: function 4 -/
mutual
def passbooklaw03_CalFollows.j0 : Nat → Int → Bool → Option (Bool)
  | 0, _, _ => none
  | k + 1, x0, x24 => if x24 = true then (passbooklaw03_CalFollows.j1 k (wrap64 (1 + (wrap64 (Int.tmod (IntKind.u64.wrap (x0)) 3652058))))) else (passbooklaw03_CalFollows.j1 k x0)
def passbooklaw03_CalFollows.j1 : Nat → Int → Option (Bool)
  | 0, _ => none
  | k + 1, x0 => (cal_Civil.f k x0).bind fun bt137 => ((cal_Civil.f k (wrap64 (x0 + 1))).bind fun bt141 => ((cal_MonthEnd.f k x0).bind fun bt145 => ((cal_Weekday.f x0).bind fun bt147 => ((cal_Weekday.f (wrap64 (x0 + 1))).bind fun bt149 => (if bt137.2.2.2 = 0 then (if bt141.2.2.2 = 0 then (if bt145.2 = 0 then (if bt147.2 = 0 then (if bt149.2 = 0 then (passbooklaw03_CalFollows.j2 k bt137.1 bt137.2.1 bt137.2.2.1 bt141.1 bt141.2.1 bt141.2.2.1 bt145.1 (bt149.1 != (Int.tmod (wrap64 (bt147.1 + 1)) 7))) else (passbooklaw03_CalFollows.j2 k bt137.1 bt137.2.1 bt137.2.2.1 bt141.1 bt141.2.1 bt141.2.2.1 bt145.1 true)) else (passbooklaw03_CalFollows.j2 k bt137.1 bt137.2.1 bt137.2.2.1 bt141.1 bt141.2.1 bt141.2.2.1 bt145.1 true)) else (passbooklaw03_CalFollows.j2 k bt137.1 bt137.2.1 bt137.2.2.1 bt141.1 bt141.2.1 bt141.2.2.1 bt145.1 true)) else (passbooklaw03_CalFollows.j2 k bt137.1 bt137.2.1 bt137.2.2.1 bt141.1 bt141.2.1 bt141.2.2.1 bt145.1 true)) else (passbooklaw03_CalFollows.j2 k bt137.1 bt137.2.1 bt137.2.2.1 bt141.1 bt141.2.1 bt141.2.2.1 bt145.1 true))))))
def passbooklaw03_CalFollows.j2 : Nat → Int → Int → Int → Int → Int → Int → Bool → Bool → Option (Bool)
  | 0, _, _, _, _, _, _, _, _ => none
  | k + 1, x3, x4, x5, x7, x8, x9, x11, x85 => if x85 = true then (some false) else (if x11 = true then (if x4 < 12 then (if x7 = x3 then (if x8 = (wrap64 (x4 + 1)) then (some (x9 == 1)) else (some false)) else (some false)) else (if x7 = (wrap64 (x3 + 1)) then (if x8 = 1 then (some (x9 == 1)) else (some false)) else (some false))) else (if x7 = x3 then (if x8 = x4 then (some (x9 == (wrap64 (x5 + 1)))) else (some false)) else (some false)))
end
def passbooklaw03_CalFollows.f (k : Nat) (a0 : Int) : Option (Bool) := (passbooklaw03_awake.f k).bind fun t136 => (if t136 = true then (if a0 < 1 then (passbooklaw03_CalFollows.j0 k a0 true) else (passbooklaw03_CalFollows.j0 k a0 (decide (a0 ≥ 3652059)))) else (some false))
theorem passbooklaw03_CalFollows.mono_l : ∀ k, (∀ y0 y1, LeO (passbooklaw03_CalFollows.j0 k y0 y1) (passbooklaw03_CalFollows.j0 (k + 1) y0 y1)) ∧ (∀ y0, LeO (passbooklaw03_CalFollows.j1 k y0) (passbooklaw03_CalFollows.j1 (k + 1) y0)) ∧ (∀ y0 y1 y2 y3 y4 y5 y6 y7, LeO (passbooklaw03_CalFollows.j2 k y0 y1 y2 y3 y4 y5 y6 y7) (passbooklaw03_CalFollows.j2 (k + 1) y0 y1 y2 y3 y4 y5 y6 y7))
  | 0 => ⟨fun _ _ r h => by simp [passbooklaw03_CalFollows.j0] at h, fun _ r h => by simp [passbooklaw03_CalFollows.j1] at h, fun _ _ _ _ _ _ _ _ r h => by simp [passbooklaw03_CalFollows.j2] at h⟩
  | k + 1 => by
    obtain ⟨ih0, ih1, ih2⟩ := passbooklaw03_CalFollows.mono_l k
    refine ⟨?_, ?_, ?_⟩
    · intro y0 y1
      unfold passbooklaw03_CalFollows.j0
      repeat' first
      | (with_reducible exact ih0 _ _)
      | (with_reducible exact ih1 _)
      | (with_reducible exact ih2 _ _ _ _ _ _ _ _)
      | (with_reducible exact cal_Civil.mono _ _)
      | (with_reducible exact cal_MonthEnd.mono _ _)
      | (with_reducible exact passbooklaw03_awake.mono _)
      | (with_reducible exact LeO.refl _)
      | (with_reducible exact LeO.none _)
      | (with_reducible refine LeO.ite ?_ ?_)
      | (with_reducible refine LeO.bind ?_ (fun _ => ?_))
      | exact ih0 _ _
      | exact ih1 _
      | exact ih2 _ _ _ _ _ _ _ _
      | exact cal_Civil.mono _ _
      | exact cal_MonthEnd.mono _ _
      | exact passbooklaw03_awake.mono _
      | exact LeO.none _
      | refine LeO.ite ?_ ?_
      | refine LeO.bind ?_ (fun _ => ?_)
    · intro y0
      unfold passbooklaw03_CalFollows.j1
      repeat' first
      | (with_reducible exact ih0 _ _)
      | (with_reducible exact ih1 _)
      | (with_reducible exact ih2 _ _ _ _ _ _ _ _)
      | (with_reducible exact cal_Civil.mono _ _)
      | (with_reducible exact cal_MonthEnd.mono _ _)
      | (with_reducible exact passbooklaw03_awake.mono _)
      | (with_reducible exact LeO.refl _)
      | (with_reducible exact LeO.none _)
      | (with_reducible refine LeO.ite ?_ ?_)
      | (with_reducible refine LeO.bind ?_ (fun _ => ?_))
      | exact ih0 _ _
      | exact ih1 _
      | exact ih2 _ _ _ _ _ _ _ _
      | exact cal_Civil.mono _ _
      | exact cal_MonthEnd.mono _ _
      | exact passbooklaw03_awake.mono _
      | exact LeO.none _
      | refine LeO.ite ?_ ?_
      | refine LeO.bind ?_ (fun _ => ?_)
    · intro y0 y1 y2 y3 y4 y5 y6 y7
      unfold passbooklaw03_CalFollows.j2
      repeat' first
      | (with_reducible exact ih0 _ _)
      | (with_reducible exact ih1 _)
      | (with_reducible exact ih2 _ _ _ _ _ _ _ _)
      | (with_reducible exact cal_Civil.mono _ _)
      | (with_reducible exact cal_MonthEnd.mono _ _)
      | (with_reducible exact passbooklaw03_awake.mono _)
      | (with_reducible exact LeO.refl _)
      | (with_reducible exact LeO.none _)
      | (with_reducible refine LeO.ite ?_ ?_)
      | (with_reducible refine LeO.bind ?_ (fun _ => ?_))
      | exact ih0 _ _
      | exact ih1 _
      | exact ih2 _ _ _ _ _ _ _ _
      | exact cal_Civil.mono _ _
      | exact cal_MonthEnd.mono _ _
      | exact passbooklaw03_awake.mono _
      | exact LeO.none _
      | refine LeO.ite ?_ ?_
      | refine LeO.bind ?_ (fun _ => ?_)
theorem passbooklaw03_CalFollows.mono : ∀ a0 k, LeO (passbooklaw03_CalFollows.f k a0) (passbooklaw03_CalFollows.f (k + 1) a0) := by
  intro a0 k
  obtain ⟨ih0, ih1, ih2⟩ := passbooklaw03_CalFollows.mono_l k
  unfold passbooklaw03_CalFollows.f
  repeat' first
      | (with_reducible exact ih0 _ _)
      | (with_reducible exact ih1 _)
      | (with_reducible exact ih2 _ _ _ _ _ _ _ _)
      | (with_reducible exact cal_Civil.mono _ _)
      | (with_reducible exact cal_MonthEnd.mono _ _)
      | (with_reducible exact passbooklaw03_awake.mono _)
      | (with_reducible exact LeO.refl _)
      | (with_reducible exact LeO.none _)
      | (with_reducible refine LeO.ite ?_ ?_)
      | (with_reducible refine LeO.bind ?_ (fun _ => ?_))
      | exact ih0 _ _
      | exact ih1 _
      | exact ih2 _ _ _ _ _ _ _ _
      | exact cal_Civil.mono _ _
      | exact cal_MonthEnd.mono _ _
      | exact passbooklaw03_awake.mono _
      | exact LeO.none _
      | refine LeO.ite ?_ ?_
      | refine LeO.bind ?_ (fun _ => ?_)
set_option maxHeartbeats 8000000 in
set_option maxRecDepth 100000 in
theorem passbooklaw03_CalFollows.calls (k : Nat) (a0 : Int) (r : Bool) (w : World) (h : passbooklaw03_CalFollows.f k a0 = some r) :
    Calls Try.prog 4 #[.int .i64 a0] w fun e w' => e = .returned (.bool r) ∧ Below w.heap.size w w' := by
  have HB := Aside0.mk (Below.refl w.heap.size w)
  have H : ((passbooklaw03_awake.f k).bind fun t136 => (if t136 = true then (if a0 < 1 then (passbooklaw03_CalFollows.j0 k a0 true) else (passbooklaw03_CalFollows.j0 k a0 (decide (a0 ≥ 3652059)))) else (some false))) = some r := h
  clear h
  replace H := Option.bind_eq_some_iff.mp H
  obtain ⟨t136, A20, H⟩ := H
  replace H : (if t136 = true then (if a0 < 1 then (passbooklaw03_CalFollows.j0 k a0 true) else (passbooklaw03_CalFollows.j0 k a0 (decide (a0 ≥ 3652059)))) else (some false)) = some r := H
  have A2 := Aside0.mk A20
  clear A20
  by_cases c3 : t136 = true
  · subst c3
    have H1 : (if a0 < 1 then (passbooklaw03_CalFollows.j0 k a0 true) else (passbooklaw03_CalFollows.j0 k a0 (decide (a0 ≥ 3652059)))) = some r := by rw [if_pos rfl] at H; exact H
    clear H
    have H := H1
    clear H1
    have HC4 := Aside0.mk H
    clear H
    go_enter Try.func4, Try.ntmps4
    go_upto_region 3 with (first | ((with_reducible refine gate_callee (f := 13) rfl ?_); refine goesL_ (some 17) rfl rfl Try.func13 (by kernel_rfl) rfl #[] rfl (by (try simp only [List.map_toArray, List.map_cons, List.map_nil]); first | done | rfl | (simp only [List.length_drop, List.length_take]; rfl)) ?_; (with_reducible refine (passbooklaw03_awake.calls k  true _ A2.out).mono ?_); rintro e w5 ⟨rfl, hb⟩; refine ⟨_, rfl, ?_⟩; have n0_ := Aside0.mk (below_step (by repeat (first | (with_reducible first | exact HB.out | apply below_alloc | apply pw_below_drewN | apply below_drew1) | exact HB.out)) hb); clear HB; have HB := n0_; clear n0_; (try clear hb); (try clear hb2); (try clear hk); (try clear hi)))
    (try simp only [Act.put, List.setIfInBounds_toArray, List.set_cons_zero, List.set_cons_succ])
    go_cut [24] (fun v24 wc => ∃ (kq : Nat) (x24_3 : Bool), v24 = .bool x24_3 ∧ Aside0 (passbooklaw03_CalFollows.j0 kq a0 x24_3 = some r) ∧ Aside0 (kq ≤ k) ∧ Aside0 (Below w.heap.size w wc))
    case first =>
      have H := HC4.out
      clear HC4
      by_cases c6 : a0 < 1
      · rw [if_pos c6] at H
        have c6b0 : decide (a0 < 1) = true := decide_eq_true c6
        clear c6
        (first | rw [c6b0] | (simp only [i64_w, i32_w]; rw [c6b0]) | skip)
        have H' := Aside0.mk H
        clear H
        go_wp2
        go_meet
        case rel => exact ⟨_, (true), (by first | rfl | (simp; done) | (simp [*]; done)), H', ⟨by first | omega | exact Nat.le_refl _⟩, ⟨by repeat (first | (with_reducible first | exact HB.out | apply below_alloc | apply pw_below_drewN | apply below_drew1) | exact HB.out)⟩⟩
      · rw [if_neg c6] at H
        have c6b0 : decide (a0 < 1) = false := decide_eq_false c6
        clear c6
        (first | rw [c6b0] | (simp only [i64_w, i32_w]; rw [c6b0]) | skip)
        have H' := Aside0.mk H
        clear H
        go_wp2
        go_meet
        case rel => exact ⟨_, (decide (a0 ≥ 3652059)), (by first | rfl | (simp; done) | (simp [*]; done)), H', ⟨by first | omega | exact Nat.le_refl _⟩, ⟨by repeat (first | (with_reducible first | exact HB.out | apply below_alloc | apply pw_below_drewN | apply below_drew1) | exact HB.out)⟩⟩
    case rest =>
      clear HC4
      try clear c1
      try clear p2
      try clear c3
      try clear c4
      try clear c6
      try clear c6b0
      obtain ⟨kq, x24_3, rfl, HA, HJ3, HB⟩ := hcut
      cases kq with
      | zero => exact absurd HA.out (by simp [passbooklaw03_CalFollows.j0])
      | succ kj3 =>
        have H := HA.out
        clear HA
        simp only [passbooklaw03_CalFollows.j0] at H
        have HC7 := Aside0.mk H
        clear H
        go_upto_if 24 with (fail)
        go_cut [0] (fun v0 wc => ∃ (kq : Nat) (x0_6 : Int), v0 = .int .i64 x0_6 ∧ Aside0 (passbooklaw03_CalFollows.j1 kq x0_6 = some r) ∧ Aside0 (kq ≤ kj3) ∧ Aside0 (Below w.heap.size w wc))
        case first =>
          have H := HC7.out
          clear HC7
          by_cases c8 : x24_3 = true
          · subst c8
            have H1 : (passbooklaw03_CalFollows.j1 kj3 (wrap64 (1 + (wrap64 (Int.tmod (IntKind.u64.wrap (a0)) 3652058))))) = some r := by rw [if_pos rfl] at H; exact H
            clear H
            have H := H1
            clear H1
            have H' := Aside0.mk H
            clear H
            go_wp2
            go_meet
            case rel => exact ⟨_, (wrap64 (1 + (wrap64 (Int.tmod (IntKind.u64.wrap (a0)) 3652058)))), (by first | rfl | (simp; done) | (simp [*]; done)), H', ⟨by have := HJ3.out; first | omega | exact Nat.le_refl _⟩, ⟨by repeat (first | (with_reducible first | exact HB.out | apply below_alloc | apply pw_below_drewN | apply below_drew1) | exact HB.out)⟩⟩
          · replace c8 := Bool.eq_false_iff.mpr c8
            subst c8
            have H1 : (passbooklaw03_CalFollows.j1 kj3 a0) = some r := by rw [if_neg (show ¬ (false = true) by decide)] at H; exact H
            clear H
            have H := H1
            clear H1
            have H' := Aside0.mk H
            clear H
            go_wp2
            go_meet
            case rel => exact ⟨_, (a0), (by first | rfl | (simp; done) | (simp [*]; done)), H', ⟨by have := HJ3.out; first | omega | exact Nat.le_refl _⟩, ⟨by repeat (first | (with_reducible first | exact HB.out | apply below_alloc | apply pw_below_drewN | apply below_drew1) | exact HB.out)⟩⟩
        case rest =>
          clear HC7
          try clear c1
          try clear p2
          try clear c3
          try clear c4
          try clear c6
          try clear c6b0
          try clear p6
          try clear c8
          try clear p2
          obtain ⟨kq, x0_6, rfl, HA, HJ6, HB⟩ := hcut
          cases kq with
          | zero => exact absurd HA.out (by simp [passbooklaw03_CalFollows.j1])
          | succ kj6 =>
            have H := HA.out
            clear HA
            simp only [passbooklaw03_CalFollows.j1] at H
            replace H := Option.bind_eq_some_iff.mp H
            obtain ⟨⟨t137, t138, t139, t140⟩, A90, H⟩ := H
            replace H : ((cal_Civil.f kj6 (wrap64 (x0_6 + 1))).bind fun bt141 => ((cal_MonthEnd.f kj6 x0_6).bind fun bt145 => ((cal_Weekday.f x0_6).bind fun bt147 => ((cal_Weekday.f (wrap64 (x0_6 + 1))).bind fun bt149 => (if t140 = 0 then (if bt141.2.2.2 = 0 then (if bt145.2 = 0 then (if bt147.2 = 0 then (if bt149.2 = 0 then (passbooklaw03_CalFollows.j2 kj6 t137 t138 t139 bt141.1 bt141.2.1 bt141.2.2.1 bt145.1 (bt149.1 != (Int.tmod (wrap64 (bt147.1 + 1)) 7))) else (passbooklaw03_CalFollows.j2 kj6 t137 t138 t139 bt141.1 bt141.2.1 bt141.2.2.1 bt145.1 true)) else (passbooklaw03_CalFollows.j2 kj6 t137 t138 t139 bt141.1 bt141.2.1 bt141.2.2.1 bt145.1 true)) else (passbooklaw03_CalFollows.j2 kj6 t137 t138 t139 bt141.1 bt141.2.1 bt141.2.2.1 bt145.1 true)) else (passbooklaw03_CalFollows.j2 kj6 t137 t138 t139 bt141.1 bt141.2.1 bt141.2.2.1 bt145.1 true)) else (passbooklaw03_CalFollows.j2 kj6 t137 t138 t139 bt141.1 bt141.2.1 bt141.2.2.1 bt145.1 true)))))) = some r := H
            have A9 := Aside0.mk A90
            clear A90
            replace H := Option.bind_eq_some_iff.mp H
            obtain ⟨⟨t141, t142, t143, t144⟩, A100, H⟩ := H
            replace H : ((cal_MonthEnd.f kj6 x0_6).bind fun bt145 => ((cal_Weekday.f x0_6).bind fun bt147 => ((cal_Weekday.f (wrap64 (x0_6 + 1))).bind fun bt149 => (if t140 = 0 then (if t144 = 0 then (if bt145.2 = 0 then (if bt147.2 = 0 then (if bt149.2 = 0 then (passbooklaw03_CalFollows.j2 kj6 t137 t138 t139 t141 t142 t143 bt145.1 (bt149.1 != (Int.tmod (wrap64 (bt147.1 + 1)) 7))) else (passbooklaw03_CalFollows.j2 kj6 t137 t138 t139 t141 t142 t143 bt145.1 true)) else (passbooklaw03_CalFollows.j2 kj6 t137 t138 t139 t141 t142 t143 bt145.1 true)) else (passbooklaw03_CalFollows.j2 kj6 t137 t138 t139 t141 t142 t143 bt145.1 true)) else (passbooklaw03_CalFollows.j2 kj6 t137 t138 t139 t141 t142 t143 bt145.1 true)) else (passbooklaw03_CalFollows.j2 kj6 t137 t138 t139 t141 t142 t143 bt145.1 true))))) = some r := H
            have A10 := Aside0.mk A100
            clear A100
            replace H := Option.bind_eq_some_iff.mp H
            obtain ⟨⟨t145, t146⟩, A110, H⟩ := H
            replace H : ((cal_Weekday.f x0_6).bind fun bt147 => ((cal_Weekday.f (wrap64 (x0_6 + 1))).bind fun bt149 => (if t140 = 0 then (if t144 = 0 then (if t146 = 0 then (if bt147.2 = 0 then (if bt149.2 = 0 then (passbooklaw03_CalFollows.j2 kj6 t137 t138 t139 t141 t142 t143 t145 (bt149.1 != (Int.tmod (wrap64 (bt147.1 + 1)) 7))) else (passbooklaw03_CalFollows.j2 kj6 t137 t138 t139 t141 t142 t143 t145 true)) else (passbooklaw03_CalFollows.j2 kj6 t137 t138 t139 t141 t142 t143 t145 true)) else (passbooklaw03_CalFollows.j2 kj6 t137 t138 t139 t141 t142 t143 t145 true)) else (passbooklaw03_CalFollows.j2 kj6 t137 t138 t139 t141 t142 t143 t145 true)) else (passbooklaw03_CalFollows.j2 kj6 t137 t138 t139 t141 t142 t143 t145 true)))) = some r := H
            have A11 := Aside0.mk A110
            clear A110
            replace H := Option.bind_eq_some_iff.mp H
            obtain ⟨⟨t147, t148⟩, A120, H⟩ := H
            replace H : ((cal_Weekday.f (wrap64 (x0_6 + 1))).bind fun bt149 => (if t140 = 0 then (if t144 = 0 then (if t146 = 0 then (if t148 = 0 then (if bt149.2 = 0 then (passbooklaw03_CalFollows.j2 kj6 t137 t138 t139 t141 t142 t143 t145 (bt149.1 != (Int.tmod (wrap64 (t147 + 1)) 7))) else (passbooklaw03_CalFollows.j2 kj6 t137 t138 t139 t141 t142 t143 t145 true)) else (passbooklaw03_CalFollows.j2 kj6 t137 t138 t139 t141 t142 t143 t145 true)) else (passbooklaw03_CalFollows.j2 kj6 t137 t138 t139 t141 t142 t143 t145 true)) else (passbooklaw03_CalFollows.j2 kj6 t137 t138 t139 t141 t142 t143 t145 true)) else (passbooklaw03_CalFollows.j2 kj6 t137 t138 t139 t141 t142 t143 t145 true))) = some r := H
            have A12 := Aside0.mk A120
            clear A120
            replace H := Option.bind_eq_some_iff.mp H
            obtain ⟨⟨t149, t150⟩, A130, H⟩ := H
            replace H : (if t140 = 0 then (if t144 = 0 then (if t146 = 0 then (if t148 = 0 then (if t150 = 0 then (passbooklaw03_CalFollows.j2 kj6 t137 t138 t139 t141 t142 t143 t145 (t149 != (Int.tmod (wrap64 (t147 + 1)) 7))) else (passbooklaw03_CalFollows.j2 kj6 t137 t138 t139 t141 t142 t143 t145 true)) else (passbooklaw03_CalFollows.j2 kj6 t137 t138 t139 t141 t142 t143 t145 true)) else (passbooklaw03_CalFollows.j2 kj6 t137 t138 t139 t141 t142 t143 t145 true)) else (passbooklaw03_CalFollows.j2 kj6 t137 t138 t139 t141 t142 t143 t145 true)) else (passbooklaw03_CalFollows.j2 kj6 t137 t138 t139 t141 t142 t143 t145 true)) = some r := H
            have A13 := Aside0.mk A130
            clear A130
            have HC14 := Aside0.mk H
            clear H
            go_upto_region 10 with (first | ((with_reducible refine gate_callee (f := 14) rfl ?_); refine goesL_ (some 32) rfl rfl Try.func14 (by kernel_rfl) rfl #[.int .i64 x0_6] rfl (by (try simp only [List.map_toArray, List.map_cons, List.map_nil]); first | done | rfl | (simp only [List.length_drop, List.length_take]; rfl)) ?_; (with_reducible refine (cal_Civil.calls kj6 x0_6 t137 t138 t139 t140 _ A9.out).mono ?_); rintro e w' ⟨rfl, ⟨nd, rfl⟩⟩; refine ⟨_, rfl, ?_⟩) | ((with_reducible refine gate_callee (f := 14) rfl ?_); refine goesL_ (some 40) rfl rfl Try.func14 (by kernel_rfl) rfl #[.int .i64 (wrap64 (x0_6 + 1))] rfl (by (try simp only [List.map_toArray, List.map_cons, List.map_nil]); first | done | rfl | (simp only [List.length_drop, List.length_take]; rfl)) ?_; (with_reducible refine (cal_Civil.calls kj6 (wrap64 (x0_6 + 1)) t141 t142 t143 t144 _ A10.out).mono ?_); rintro e w' ⟨rfl, ⟨nd, rfl⟩⟩; refine ⟨_, rfl, ?_⟩) | ((with_reducible refine gate_callee (f := 16) rfl ?_); refine goesL_ (some 47) rfl rfl Try.func16 (by kernel_rfl) rfl #[.int .i64 x0_6] rfl (by (try simp only [List.map_toArray, List.map_cons, List.map_nil]); first | done | rfl | (simp only [List.length_drop, List.length_take]; rfl)) ?_; (with_reducible refine (cal_MonthEnd.calls kj6 x0_6 t145 t146 _ A11.out).mono ?_); rintro e w' ⟨rfl, ⟨nd, rfl⟩⟩; refine ⟨_, rfl, ?_⟩) | ((with_reducible refine gate_callee (f := 15) rfl ?_); refine goesL_ (some 52) rfl rfl Try.func15 (by kernel_rfl) rfl #[.int .i64 x0_6] rfl (by (try simp only [List.map_toArray, List.map_cons, List.map_nil]); first | done | rfl | (simp only [List.length_drop, List.length_take]; rfl)) ?_; (with_reducible refine (cal_Weekday.calls x0_6 t147 t148 _ A12.out).mono ?_); rintro e w' ⟨rfl, ⟨nd, rfl⟩⟩; refine ⟨_, rfl, ?_⟩) | ((with_reducible refine gate_callee (f := 15) rfl ?_); refine goesL_ (some 58) rfl rfl Try.func15 (by kernel_rfl) rfl #[.int .i64 (wrap64 (x0_6 + 1))] rfl (by (try simp only [List.map_toArray, List.map_cons, List.map_nil]); first | done | rfl | (simp only [List.length_drop, List.length_take]; rfl)) ?_; (with_reducible refine (cal_Weekday.calls (wrap64 (x0_6 + 1)) t149 t150 _ A13.out).mono ?_); rintro e w' ⟨rfl, ⟨nd, rfl⟩⟩; refine ⟨_, rfl, ?_⟩))
            (try simp only [Act.put, List.setIfInBounds_toArray, List.set_cons_zero, List.set_cons_succ])
            go_cut [85] (fun v85 wc => ∃ (kq : Nat) (x85_13 : Bool), v85 = .bool x85_13 ∧ Aside0 (passbooklaw03_CalFollows.j2 kq t137 t138 t139 t141 t142 t143 t145 x85_13 = some r) ∧ Aside0 (kq ≤ kj6) ∧ Aside0 (Below w.heap.size w wc))
            case first =>
              have H := HC14.out
              clear HC14
              by_cases c15 : t140 = 0
              · rw [if_pos c15] at H
                have c15b0 : (t140 == 0) = true := beq_iff_eq.mpr c15
                have c15b1 : (t140 != 0) = false := bne_eq_false_iff_eq.mpr c15
                clear c15
                (first | rw [c15b0] | (simp only [i64_w, i32_w]; rw [c15b0]) | skip)
                by_cases c16 : t144 = 0
                · rw [if_pos c16] at H
                  have c16b0 : (t144 == 0) = true := beq_iff_eq.mpr c16
                  have c16b1 : (t144 != 0) = false := bne_eq_false_iff_eq.mpr c16
                  clear c16
                  by_cases c17 : t146 = 0
                  · rw [if_pos c17] at H
                    have c17b0 : (t146 == 0) = true := beq_iff_eq.mpr c17
                    have c17b1 : (t146 != 0) = false := bne_eq_false_iff_eq.mpr c17
                    clear c17
                    by_cases c18 : t148 = 0
                    · rw [if_pos c18] at H
                      have c18b0 : (t148 == 0) = true := beq_iff_eq.mpr c18
                      have c18b1 : (t148 != 0) = false := bne_eq_false_iff_eq.mpr c18
                      clear c18
                      by_cases c19 : t150 = 0
                      · rw [if_pos c19] at H
                        have c19b0 : (t150 == 0) = true := beq_iff_eq.mpr c19
                        have c19b1 : (t150 != 0) = false := bne_eq_false_iff_eq.mpr c19
                        clear c19
                        have H' := Aside0.mk H
                        clear H
                        go_wp2
                        go_meet
                        case rel => exact ⟨_, ((t149 != (Int.tmod (wrap64 (t147 + 1)) 7))), (by first | rfl | (simp; done) | (simp [*]; done)), H', ⟨by have := HJ3.out; have := HJ6.out; first | omega | exact Nat.le_refl _⟩, ⟨by repeat (first | (with_reducible first | exact HB.out | apply below_alloc | apply pw_below_drewN | apply below_drew1) | exact HB.out)⟩⟩
                      · rw [if_neg c19] at H
                        have c19b0 : (t150 == 0) = false := beq_eq_false_iff_ne.mpr c19
                        have c19b1 : (t150 != 0) = true := bne_iff_ne.mpr c19
                        have H' := Aside0.mk H
                        clear H
                        go_wp2
                        go_meet
                        case rel => exact ⟨_, (true), (by first | rfl | (simp; done) | (simp [*]; done)), H', ⟨by have := HJ3.out; have := HJ6.out; first | omega | exact Nat.le_refl _⟩, ⟨by repeat (first | (with_reducible first | exact HB.out | apply below_alloc | apply pw_below_drewN | apply below_drew1) | exact HB.out)⟩⟩
                    · rw [if_neg c18] at H
                      have c18b0 : (t148 == 0) = false := beq_eq_false_iff_ne.mpr c18
                      have c18b1 : (t148 != 0) = true := bne_iff_ne.mpr c18
                      have H' := Aside0.mk H
                      clear H
                      go_wp2
                      go_meet
                      case rel => exact ⟨_, (true), (by first | rfl | (simp; done) | (simp [*]; done)), H', ⟨by have := HJ3.out; have := HJ6.out; first | omega | exact Nat.le_refl _⟩, ⟨by repeat (first | (with_reducible first | exact HB.out | apply below_alloc | apply pw_below_drewN | apply below_drew1) | exact HB.out)⟩⟩
                  · rw [if_neg c17] at H
                    have c17b0 : (t146 == 0) = false := beq_eq_false_iff_ne.mpr c17
                    have c17b1 : (t146 != 0) = true := bne_iff_ne.mpr c17
                    have H' := Aside0.mk H
                    clear H
                    go_wp2
                    go_meet
                    case rel => exact ⟨_, (true), (by first | rfl | (simp; done) | (simp [*]; done)), H', ⟨by have := HJ3.out; have := HJ6.out; first | omega | exact Nat.le_refl _⟩, ⟨by repeat (first | (with_reducible first | exact HB.out | apply below_alloc | apply pw_below_drewN | apply below_drew1) | exact HB.out)⟩⟩
                · rw [if_neg c16] at H
                  have c16b0 : (t144 == 0) = false := beq_eq_false_iff_ne.mpr c16
                  have c16b1 : (t144 != 0) = true := bne_iff_ne.mpr c16
                  have H' := Aside0.mk H
                  clear H
                  go_wp2
                  go_meet
                  case rel => exact ⟨_, (true), (by first | rfl | (simp; done) | (simp [*]; done)), H', ⟨by have := HJ3.out; have := HJ6.out; first | omega | exact Nat.le_refl _⟩, ⟨by repeat (first | (with_reducible first | exact HB.out | apply below_alloc | apply pw_below_drewN | apply below_drew1) | exact HB.out)⟩⟩
              · rw [if_neg c15] at H
                have c15b0 : (t140 == 0) = false := beq_eq_false_iff_ne.mpr c15
                have c15b1 : (t140 != 0) = true := bne_iff_ne.mpr c15
                (first | rw [c15b0] | (simp only [i64_w, i32_w]; rw [c15b0]) | skip)
                have H' := Aside0.mk H
                clear H
                go_wp2
                go_meet
                case rel => exact ⟨_, (true), (by first | rfl | (simp; done) | (simp [*]; done)), H', ⟨by have := HJ3.out; have := HJ6.out; first | omega | exact Nat.le_refl _⟩, ⟨by repeat (first | (with_reducible first | exact HB.out | apply below_alloc | apply pw_below_drewN | apply below_drew1) | exact HB.out)⟩⟩
            case rest =>
              clear HC14
              try clear c1
              try clear p2
              try clear c3
              try clear c4
              try clear c6
              try clear c6b0
              try clear p6
              try clear c8
              try clear c13
              try clear c14
              try clear c15
              try clear c15b0
              try clear c15b1
              try clear c16
              try clear c16b0
              try clear c16b1
              try clear c17
              try clear c17b0
              try clear c17b1
              try clear c18
              try clear c18b0
              try clear c18b1
              try clear c19
              try clear c19b0
              try clear c19b1
              try clear p2
              try clear p6
              obtain ⟨kq, x85_13, rfl, HA, HJ13, HB⟩ := hcut
              cases kq with
              | zero => exact absurd HA.out (by simp [passbooklaw03_CalFollows.j2])
              | succ kj13 =>
                have H := HA.out
                clear HA
                simp only [passbooklaw03_CalFollows.j2] at H
                by_cases c20 : x85_13 = true
                · subst c20
                  have H1 : (some false) = some r := by rw [if_pos rfl] at H; exact H
                  clear H
                  have H := H1
                  clear H1
                  obtain rfl := Option.some.inj H
                  go_wp2
                  go_ret
                  exact ⟨by first | rfl | (simp [errW_none, errW_some] <;> rfl) | (simp [*, errW_none, errW_some] <;> rfl), by repeat (first | (with_reducible first | exact HB.out | apply below_alloc | apply pw_below_drewN | apply below_drew1) | exact HB.out)⟩
                · replace c20 := Bool.eq_false_iff.mpr c20
                  subst c20
                  have H1 : (if t145 = true then (if t138 < 12 then (if t141 = t137 then (if t142 = (wrap64 (t138 + 1)) then (some (t143 == 1)) else (some false)) else (some false)) else (if t141 = (wrap64 (t137 + 1)) then (if t142 = 1 then (some (t143 == 1)) else (some false)) else (some false))) else (if t141 = t137 then (if t142 = t138 then (some (t143 == (wrap64 (t139 + 1)))) else (some false)) else (some false))) = some r := by rw [if_neg (show ¬ (false = true) by decide)] at H; exact H
                  clear H
                  have H := H1
                  clear H1
                  by_cases c21 : t145 = true
                  · subst c21
                    have H1 : (if t138 < 12 then (if t141 = t137 then (if t142 = (wrap64 (t138 + 1)) then (some (t143 == 1)) else (some false)) else (some false)) else (if t141 = (wrap64 (t137 + 1)) then (if t142 = 1 then (some (t143 == 1)) else (some false)) else (some false))) = some r := by rw [if_pos rfl] at H; exact H
                    clear H
                    have H := H1
                    clear H1
                    by_cases c22 : t138 < 12
                    · rw [if_pos c22] at H
                      have c22b0 : decide (t138 < 12) = true := decide_eq_true c22
                      clear c22
                      by_cases c23 : t141 = t137
                      · rw [if_pos c23] at H
                        have c23b0 : (t141 == t137) = true := beq_iff_eq.mpr c23
                        have c23b1 : (t141 != t137) = false := bne_eq_false_iff_eq.mpr c23
                        clear c23
                        by_cases c24 : t142 = (wrap64 (t138 + 1))
                        · rw [if_pos c24] at H
                          have c24b0 : (t142 == (wrap64 (t138 + 1))) = true := beq_iff_eq.mpr c24
                          have c24b1 : (t142 != (wrap64 (t138 + 1))) = false := bne_eq_false_iff_eq.mpr c24
                          clear c24
                          obtain rfl := Option.some.inj H
                          go_wp2
                          go_ret
                          exact ⟨by first | rfl | (simp [errW_none, errW_some] <;> rfl) | (simp [*, errW_none, errW_some] <;> rfl), by repeat (first | (with_reducible first | exact HB.out | apply below_alloc | apply pw_below_drewN | apply below_drew1) | exact HB.out)⟩
                        · rw [if_neg c24] at H
                          have c24b0 : (t142 == (wrap64 (t138 + 1))) = false := beq_eq_false_iff_ne.mpr c24
                          have c24b1 : (t142 != (wrap64 (t138 + 1))) = true := bne_iff_ne.mpr c24
                          obtain rfl := Option.some.inj H
                          go_wp2
                          go_ret
                          exact ⟨by first | rfl | (simp [errW_none, errW_some] <;> rfl) | (simp [*, errW_none, errW_some] <;> rfl), by repeat (first | (with_reducible first | exact HB.out | apply below_alloc | apply pw_below_drewN | apply below_drew1) | exact HB.out)⟩
                      · rw [if_neg c23] at H
                        have c23b0 : (t141 == t137) = false := beq_eq_false_iff_ne.mpr c23
                        have c23b1 : (t141 != t137) = true := bne_iff_ne.mpr c23
                        obtain rfl := Option.some.inj H
                        go_wp2
                        go_ret
                        exact ⟨by first | rfl | (simp [errW_none, errW_some] <;> rfl) | (simp [*, errW_none, errW_some] <;> rfl), by repeat (first | (with_reducible first | exact HB.out | apply below_alloc | apply pw_below_drewN | apply below_drew1) | exact HB.out)⟩
                    · rw [if_neg c22] at H
                      have c22b0 : decide (t138 < 12) = false := decide_eq_false c22
                      clear c22
                      by_cases c25 : t141 = (wrap64 (t137 + 1))
                      · rw [if_pos c25] at H
                        have c25b0 : (t141 == (wrap64 (t137 + 1))) = true := beq_iff_eq.mpr c25
                        have c25b1 : (t141 != (wrap64 (t137 + 1))) = false := bne_eq_false_iff_eq.mpr c25
                        clear c25
                        by_cases c26 : t142 = 1
                        · rw [if_pos c26] at H
                          have c26b0 : (t142 == 1) = true := beq_iff_eq.mpr c26
                          have c26b1 : (t142 != 1) = false := bne_eq_false_iff_eq.mpr c26
                          clear c26
                          obtain rfl := Option.some.inj H
                          go_wp2
                          go_ret
                          exact ⟨by first | rfl | (simp [errW_none, errW_some] <;> rfl) | (simp [*, errW_none, errW_some] <;> rfl), by repeat (first | (with_reducible first | exact HB.out | apply below_alloc | apply pw_below_drewN | apply below_drew1) | exact HB.out)⟩
                        · rw [if_neg c26] at H
                          have c26b0 : (t142 == 1) = false := beq_eq_false_iff_ne.mpr c26
                          have c26b1 : (t142 != 1) = true := bne_iff_ne.mpr c26
                          obtain rfl := Option.some.inj H
                          go_wp2
                          go_ret
                          exact ⟨by first | rfl | (simp [errW_none, errW_some] <;> rfl) | (simp [*, errW_none, errW_some] <;> rfl), by repeat (first | (with_reducible first | exact HB.out | apply below_alloc | apply pw_below_drewN | apply below_drew1) | exact HB.out)⟩
                      · rw [if_neg c25] at H
                        have c25b0 : (t141 == (wrap64 (t137 + 1))) = false := beq_eq_false_iff_ne.mpr c25
                        have c25b1 : (t141 != (wrap64 (t137 + 1))) = true := bne_iff_ne.mpr c25
                        obtain rfl := Option.some.inj H
                        go_wp2
                        go_ret
                        exact ⟨by first | rfl | (simp [errW_none, errW_some] <;> rfl) | (simp [*, errW_none, errW_some] <;> rfl), by repeat (first | (with_reducible first | exact HB.out | apply below_alloc | apply pw_below_drewN | apply below_drew1) | exact HB.out)⟩
                  · replace c21 := Bool.eq_false_iff.mpr c21
                    subst c21
                    have H1 : (if t141 = t137 then (if t142 = t138 then (some (t143 == (wrap64 (t139 + 1)))) else (some false)) else (some false)) = some r := by rw [if_neg (show ¬ (false = true) by decide)] at H; exact H
                    clear H
                    have H := H1
                    clear H1
                    by_cases c27 : t141 = t137
                    · rw [if_pos c27] at H
                      have c27b0 : (t141 == t137) = true := beq_iff_eq.mpr c27
                      have c27b1 : (t141 != t137) = false := bne_eq_false_iff_eq.mpr c27
                      clear c27
                      by_cases c28 : t142 = t138
                      · rw [if_pos c28] at H
                        have c28b0 : (t142 == t138) = true := beq_iff_eq.mpr c28
                        have c28b1 : (t142 != t138) = false := bne_eq_false_iff_eq.mpr c28
                        clear c28
                        obtain rfl := Option.some.inj H
                        go_wp2
                        go_ret
                        exact ⟨by first | rfl | (simp [errW_none, errW_some] <;> rfl) | (simp [*, errW_none, errW_some] <;> rfl), by repeat (first | (with_reducible first | exact HB.out | apply below_alloc | apply pw_below_drewN | apply below_drew1) | exact HB.out)⟩
                      · rw [if_neg c28] at H
                        have c28b0 : (t142 == t138) = false := beq_eq_false_iff_ne.mpr c28
                        have c28b1 : (t142 != t138) = true := bne_iff_ne.mpr c28
                        obtain rfl := Option.some.inj H
                        go_wp2
                        go_ret
                        exact ⟨by first | rfl | (simp [errW_none, errW_some] <;> rfl) | (simp [*, errW_none, errW_some] <;> rfl), by repeat (first | (with_reducible first | exact HB.out | apply below_alloc | apply pw_below_drewN | apply below_drew1) | exact HB.out)⟩
                    · rw [if_neg c27] at H
                      have c27b0 : (t141 == t137) = false := beq_eq_false_iff_ne.mpr c27
                      have c27b1 : (t141 != t137) = true := bne_iff_ne.mpr c27
                      obtain rfl := Option.some.inj H
                      go_wp2
                      go_ret
                      exact ⟨by first | rfl | (simp [errW_none, errW_some] <;> rfl) | (simp [*, errW_none, errW_some] <;> rfl), by repeat (first | (with_reducible first | exact HB.out | apply below_alloc | apply pw_below_drewN | apply below_drew1) | exact HB.out)⟩
  · replace c3 := Bool.eq_false_iff.mpr c3
    subst c3
    have H1 : (some false) = some r := by rw [if_neg (show ¬ (false = true) by decide)] at H; exact H
    clear H
    have H := H1
    clear H1
    obtain rfl := Option.some.inj H
    go_enter Try.func4, Try.ntmps4
    go_wp2_with (first | ((with_reducible refine gate_callee (f := 13) rfl ?_); refine goesL_ (some 17) rfl rfl Try.func13 (by kernel_rfl) rfl #[] rfl (by (try simp only [List.map_toArray, List.map_cons, List.map_nil]); first | done | rfl | (simp only [List.length_drop, List.length_take]; rfl)) ?_; (with_reducible refine (passbooklaw03_awake.calls k  false _ A2.out).mono ?_); rintro e w29 ⟨rfl, hb⟩; refine ⟨_, rfl, ?_⟩; have n0_ := Aside0.mk (below_step (by repeat (first | (with_reducible first | exact HB.out | apply below_alloc | apply pw_below_drewN | apply below_drew1) | exact HB.out)) hb); clear HB; have HB := n0_; clear n0_; (try clear hb); (try clear hb2); (try clear hk); (try clear hi)))
    go_ret
    exact ⟨by first | rfl | (simp [errW_none, errW_some] <;> rfl) | (simp [*, errW_none, errW_some] <;> rfl), by repeat (first | (with_reducible first | exact HB.out | apply below_alloc | apply pw_below_drewN | apply below_drew1) | exact HB.out)⟩

/-- THE ONE PURE STATEMENT of passbooklaw03_CalFollows: yours. -/
def passbooklaw03_CalFollows.Pure : Prop := ∀ (a0 : Int), (Lit.int .i64 a0).wf = true → ∃ k, passbooklaw03_CalFollows.f k a0 = some true
theorem passbooklaw03_CalFollows.walk (P : passbooklaw03_CalFollows.Pure) (a0 : Int) (w : World) (w0 : (Lit.int .i64 a0).wf = true) :
    Calls Try.prog 4 #[.int .i64 a0] w fun e w' => e = .returned (.bool true) ∧ Below w.heap.size w w' := by
  obtain ⟨k, h⟩ := P a0 w0
  refine (passbooklaw03_CalFollows.calls k a0 true w h).mono ?_
  rintro e w' ⟨rfl, hd⟩
  exact ⟨rfl, hd⟩

end Go.Proofs.Ytemijfjchoimpaa.PCalFollows

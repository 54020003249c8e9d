-- PRINTED BY print.sh 35421559b90ae4d0a3588c463048766b98c2df88dd9212a6774a882060cdf62d: not written by this session
import Derived.Test.YtemijfjchoimpaaPBasisYearsx0
import Derived.Test.YtemijfjchoimpaaPBasisYearsx1
import Derived.Test.YtemijfjchoimpaaPBasisYearsx2
namespace Go.Proofs.Ytemijfjchoimpaa.PBasisYears
open Go.RowKit Go.Proofs.YtemijfjchoimpaaW.PrintWords Go.Proofs.YtemijfjchoimpaaW.PrintLast Go.Proofs.YtemijfjchoimpaaW.PrintMore
attribute [local go_sem] max2_int min2_int max_two min_two max_three min_three max_four min_four   -- for this text's walks alone
set_option linter.unusedVariables false
set_option linter.unusedSimpArgs false

/-! ### passbooklaw04_BasisYears: function 11 -/
def passbooklaw04_BasisYears.j0 : Nat → Int → Bool → Option (Bool)
  | 0, _, _ => none
  | k + 1, x0, x60 => if x60 = true then (some false) else ((cal_Civil.f k (wrap64 (1 + (wrap64 (Int.tmod (IntKind.u64.wrap (x0)) 3651693))))).bind fun bt161 => ((cal_AddMonths.f k (wrap64 (1 + (wrap64 (Int.tmod (IntKind.u64.wrap (x0)) 3651693)))) 12).bind fun bt165 => ((basis_Part.f k 2 (wrap64 (1 + (wrap64 (Int.tmod (IntKind.u64.wrap (x0)) 3651693)))) bt165.1).bind fun bt167 => (if bt161.2.2.2 = 0 then (if bt165.2 = 0 then (if bt167.2.2 = 0 then (if bt167.2.1 = 360 then (if bt167.1 = 360 then (some true) else (if bt161.2.1 = 2 then (if bt161.2.2.1 = 29 then (some (bt167.1 == 359)) else (some false)) else (some false))) else (some false)) else (some false)) else (some false)) else (some false)))))
def passbooklaw04_BasisYears.f (k : Nat) (a0 : Int) (a1 : Int) : Option (Bool) := (passbooklaw04_awake.f k).bind fun t153 => (if t153 = true then ((cal_Number.f k (wrap64 (1 + (Int.tmod (wrap64 (a1)) 9998))) 1 1).bind fun bt154 => ((cal_Number.f k (wrap64 ((wrap64 (1 + (Int.tmod (wrap64 (a1)) 9998))) + 1)) 1 1).bind fun bt156 => ((basis_Part.f k 3 bt154.1 bt156.1).bind fun bt158 => (if bt154.2 = 0 then (if bt156.2 = 0 then (if bt158.2.2 = 0 then (passbooklaw04_BasisYears.j0 k a0 (bt158.1 != bt158.2.1)) else (passbooklaw04_BasisYears.j0 k a0 true)) else (passbooklaw04_BasisYears.j0 k a0 true)) else (passbooklaw04_BasisYears.j0 k a0 true))))) else (some false))
theorem passbooklaw04_BasisYears.mono_l : ∀ k, (∀ y0 y1, LeO (passbooklaw04_BasisYears.j0 k y0 y1) (passbooklaw04_BasisYears.j0 (k + 1) y0 y1))
  | 0 => fun _ _ r h => by simp [passbooklaw04_BasisYears.j0] at h
  | k + 1 => by
    have ih0 := passbooklaw04_BasisYears.mono_l k
    · intro y0 y1
      unfold passbooklaw04_BasisYears.j0
      repeat' first
      | (with_reducible exact ih0 _ _)
      | (with_reducible exact basis_Part.mono _ _ _ _)
      | (with_reducible exact cal_AddMonths.mono _ _ _)
      | (with_reducible exact cal_Civil.mono _ _)
      | (with_reducible exact cal_Number.mono _ _ _ _)
      | (with_reducible exact passbooklaw04_awake.mono _)
      | (with_reducible exact LeO.refl _)
      | (with_reducible exact LeO.none _)
      | (with_reducible refine LeO.ite ?_ ?_)
      | (with_reducible refine LeO.bind ?_ (fun _ => ?_))
      | exact ih0 _ _
      | exact basis_Part.mono _ _ _ _
      | exact cal_AddMonths.mono _ _ _
      | exact cal_Civil.mono _ _
      | exact cal_Number.mono _ _ _ _
      | exact passbooklaw04_awake.mono _
      | exact LeO.none _
      | refine LeO.ite ?_ ?_
      | refine LeO.bind ?_ (fun _ => ?_)
theorem passbooklaw04_BasisYears.mono : ∀ a0 a1 k, LeO (passbooklaw04_BasisYears.f k a0 a1) (passbooklaw04_BasisYears.f (k + 1) a0 a1) := by
  intro a0 a1 k
  have ih0 := passbooklaw04_BasisYears.mono_l k
  unfold passbooklaw04_BasisYears.f
  repeat' first
      | (with_reducible exact ih0 _ _)
      | (with_reducible exact basis_Part.mono _ _ _ _)
      | (with_reducible exact cal_AddMonths.mono _ _ _)
      | (with_reducible exact cal_Civil.mono _ _)
      | (with_reducible exact cal_Number.mono _ _ _ _)
      | (with_reducible exact passbooklaw04_awake.mono _)
      | (with_reducible exact LeO.refl _)
      | (with_reducible exact LeO.none _)
      | (with_reducible refine LeO.ite ?_ ?_)
      | (with_reducible refine LeO.bind ?_ (fun _ => ?_))
      | exact ih0 _ _
      | exact basis_Part.mono _ _ _ _
      | exact cal_AddMonths.mono _ _ _
      | exact cal_Civil.mono _ _
      | exact cal_Number.mono _ _ _ _
      | exact passbooklaw04_awake.mono _
      | exact LeO.none _
      | refine LeO.ite ?_ ?_
      | refine LeO.bind ?_ (fun _ => ?_)
set_option maxHeartbeats 8000000 in
set_option maxRecDepth 100000 in
theorem passbooklaw04_BasisYears.calls (k : Nat) (a0 : Int) (a1 : Int) (r : Bool) (w : World) (h : passbooklaw04_BasisYears.f k a0 a1 = some r) :
    Calls Try.prog 11 #[.int .i64 a0, .int .u16 a1] w fun e w' => e = .returned (.bool r) ∧ Below w.heap.size w w' := by
  have HB := Aside0.mk (Below.refl w.heap.size w)
  have H : ((passbooklaw04_awake.f k).bind fun t153 => (if t153 = true then ((cal_Number.f k (wrap64 (1 + (Int.tmod (wrap64 (a1)) 9998))) 1 1).bind fun bt154 => ((cal_Number.f k (wrap64 ((wrap64 (1 + (Int.tmod (wrap64 (a1)) 9998))) + 1)) 1 1).bind fun bt156 => ((basis_Part.f k 3 bt154.1 bt156.1).bind fun bt158 => (if bt154.2 = 0 then (if bt156.2 = 0 then (if bt158.2.2 = 0 then (passbooklaw04_BasisYears.j0 k a0 (bt158.1 != bt158.2.1)) else (passbooklaw04_BasisYears.j0 k a0 true)) else (passbooklaw04_BasisYears.j0 k a0 true)) else (passbooklaw04_BasisYears.j0 k a0 true))))) else (some false))) = some r := h
  clear h
  replace H := Option.bind_eq_some_iff.mp H
  obtain ⟨t153, A30, H⟩ := H
  replace H : (if t153 = true then ((cal_Number.f k (wrap64 (1 + (Int.tmod (wrap64 (a1)) 9998))) 1 1).bind fun bt154 => ((cal_Number.f k (wrap64 ((wrap64 (1 + (Int.tmod (wrap64 (a1)) 9998))) + 1)) 1 1).bind fun bt156 => ((basis_Part.f k 3 bt154.1 bt156.1).bind fun bt158 => (if bt154.2 = 0 then (if bt156.2 = 0 then (if bt158.2.2 = 0 then (passbooklaw04_BasisYears.j0 k a0 (bt158.1 != bt158.2.1)) else (passbooklaw04_BasisYears.j0 k a0 true)) else (passbooklaw04_BasisYears.j0 k a0 true)) else (passbooklaw04_BasisYears.j0 k a0 true))))) else (some false)) = some r := H
  have A3 := Aside0.mk A30
  clear A30
  by_cases c4 : t153 = true
  · subst c4
    have H1 : ((cal_Number.f k (wrap64 (1 + (Int.tmod (wrap64 (a1)) 9998))) 1 1).bind fun bt154 => ((cal_Number.f k (wrap64 ((wrap64 (1 + (Int.tmod (wrap64 (a1)) 9998))) + 1)) 1 1).bind fun bt156 => ((basis_Part.f k 3 bt154.1 bt156.1).bind fun bt158 => (if bt154.2 = 0 then (if bt156.2 = 0 then (if bt158.2.2 = 0 then (passbooklaw04_BasisYears.j0 k a0 (bt158.1 != bt158.2.1)) else (passbooklaw04_BasisYears.j0 k a0 true)) else (passbooklaw04_BasisYears.j0 k a0 true)) else (passbooklaw04_BasisYears.j0 k a0 true))))) = some r := by rw [if_pos rfl] at H; exact H
    clear H
    have H := H1
    clear H1
    replace H := Option.bind_eq_some_iff.mp H
    obtain ⟨⟨t154, t155⟩, A50, H⟩ := H
    replace H : ((cal_Number.f k (wrap64 ((wrap64 (1 + (Int.tmod (wrap64 (a1)) 9998))) + 1)) 1 1).bind fun bt156 => ((basis_Part.f k 3 t154 bt156.1).bind fun bt158 => (if t155 = 0 then (if bt156.2 = 0 then (if bt158.2.2 = 0 then (passbooklaw04_BasisYears.j0 k a0 (bt158.1 != bt158.2.1)) else (passbooklaw04_BasisYears.j0 k a0 true)) else (passbooklaw04_BasisYears.j0 k a0 true)) else (passbooklaw04_BasisYears.j0 k a0 true)))) = some r := H
    have A5 := Aside0.mk A50
    clear A50
    replace H := Option.bind_eq_some_iff.mp H
    obtain ⟨⟨t156, t157⟩, A60, H⟩ := H
    replace H : ((basis_Part.f k 3 t154 t156).bind fun bt158 => (if t155 = 0 then (if t157 = 0 then (if bt158.2.2 = 0 then (passbooklaw04_BasisYears.j0 k a0 (bt158.1 != bt158.2.1)) else (passbooklaw04_BasisYears.j0 k a0 true)) else (passbooklaw04_BasisYears.j0 k a0 true)) else (passbooklaw04_BasisYears.j0 k a0 true))) = some r := H
    have A6 := Aside0.mk A60
    clear A60
    replace H := Option.bind_eq_some_iff.mp H
    obtain ⟨⟨t158, t159, t160⟩, A70, H⟩ := H
    replace H : (if t155 = 0 then (if t157 = 0 then (if t160 = 0 then (passbooklaw04_BasisYears.j0 k a0 (t158 != t159)) else (passbooklaw04_BasisYears.j0 k a0 true)) else (passbooklaw04_BasisYears.j0 k a0 true)) else (passbooklaw04_BasisYears.j0 k a0 true)) = some r := H
    have A7 := Aside0.mk A70
    clear A70
    have HC8 := Aside0.mk H
    clear H
    go_enter Try.func11, Try.ntmps11
    go_upto_region 7 with (first | ((with_reducible refine gate_callee (f := 30) rfl ?_); refine goesL_ (some 22) rfl rfl Try.func30 (by kernel_rfl) rfl #[] rfl (by (try simp only [List.map_toArray, List.map_cons, List.map_nil]); first | done | rfl | (simp only [List.length_drop, List.length_take]; rfl)) ?_; (with_reducible refine (passbooklaw04_awake.calls k  true _ A3.out).mono ?_); rintro e w9 ⟨rfl, hb⟩; refine ⟨_, rfl, ?_⟩; have n0_ := Aside0.mk (below_step (by repeat (first | (with_reducible first | exact HB.out | apply below_alloc | apply pw_below_drewN | apply below_drew1) | exact HB.out)) hb); clear HB; have HB := n0_; clear n0_; (try clear hb); (try clear hb2); (try clear hk); (try clear hi)) | ((with_reducible refine gate_callee (f := 19) rfl ?_); refine goesL_ (some 30) rfl rfl Try.func19 (by kernel_rfl) rfl #[.int .i64 (wrap64 (1 + (Int.tmod (wrap64 (a1)) 9998))), .int .i64 1, .int .i64 1] rfl (by (try simp only [List.map_toArray, List.map_cons, List.map_nil]); first | done | rfl | (simp only [List.length_drop, List.length_take]; rfl)) ?_; (with_reducible refine (cal_Number.calls k (wrap64 (1 + (Int.tmod (wrap64 (a1)) 9998))) 1 1 t154 t155 _ A5.out).mono ?_); rintro e w' ⟨rfl, ⟨nd, rfl⟩⟩; refine ⟨_, rfl, ?_⟩) | ((with_reducible refine gate_callee (f := 19) rfl ?_); refine goesL_ (some 36) rfl rfl Try.func19 (by kernel_rfl) rfl #[.int .i64 (wrap64 ((wrap64 (1 + (Int.tmod (wrap64 (a1)) 9998))) + 1)), .int .i64 1, .int .i64 1] rfl (by (try simp only [List.map_toArray, List.map_cons, List.map_nil]); first | done | rfl | (simp only [List.length_drop, List.length_take]; rfl)) ?_; (with_reducible refine (cal_Number.calls k (wrap64 ((wrap64 (1 + (Int.tmod (wrap64 (a1)) 9998))) + 1)) 1 1 t156 t157 _ A6.out).mono ?_); rintro e w' ⟨rfl, ⟨nd, rfl⟩⟩; refine ⟨_, rfl, ?_⟩) | ((with_reducible refine gate_callee (f := 32) rfl ?_); refine goesL_ (some 42) rfl rfl Try.func32 (by kernel_rfl) rfl #[.int .i64 3, .int .i64 t154, .int .i64 t156] rfl (by (try simp only [List.map_toArray, List.map_cons, List.map_nil]); first | done | rfl | (simp only [List.length_drop, List.length_take]; rfl)) ?_; (with_reducible refine (basis_Part.calls k 3 t154 t156 t158 t159 t160 _ A7.out).mono ?_); rintro e w10 ⟨rfl, hb⟩; refine ⟨_, rfl, ?_⟩; have n0_ := Aside0.mk (below_step (by repeat (first | (with_reducible first | exact HB.out | apply below_alloc | apply pw_below_drewN | apply below_drew1) | exact HB.out)) hb); clear HB; have HB := n0_; clear n0_; (try clear hb); (try clear hb2); (try clear hk); (try clear hi)))
    (try simp only [Act.put, List.setIfInBounds_toArray, List.set_cons_zero, List.set_cons_succ])
    go_cut [60] (fun v60 wc => ∃ (kq : Nat) (x60_7 : Bool), v60 = .bool x60_7 ∧ Aside0 (passbooklaw04_BasisYears.j0 kq a0 x60_7 = some r) ∧ Aside0 (kq ≤ k) ∧ Aside0 (Below w.heap.size w wc))
    case first =>
      have H := HC8.out
      clear HC8
      by_cases c11 : t155 = 0
      · rw [if_pos c11] at H
        have c11b0 : (t155 == 0) = true := beq_iff_eq.mpr c11
        have c11b1 : (t155 != 0) = false := bne_eq_false_iff_eq.mpr c11
        clear c11
        (first | rw [c11b0] | (simp only [i64_w, i32_w]; rw [c11b0]) | skip)
        by_cases c12 : t157 = 0
        · rw [if_pos c12] at H
          have c12b0 : (t157 == 0) = true := beq_iff_eq.mpr c12
          have c12b1 : (t157 != 0) = false := bne_eq_false_iff_eq.mpr c12
          clear c12
          by_cases c13 : t160 = 0
          · rw [if_pos c13] at H
            have c13b0 : (t160 == 0) = true := beq_iff_eq.mpr c13
            have c13b1 : (t160 != 0) = false := bne_eq_false_iff_eq.mpr c13
            clear c13
            have H' := Aside0.mk H
            clear H
            go_wp2
            go_meet
            case rel => exact ⟨_, ((t158 != t159)), (by first | rfl | (simp; done) | (simp [*]; done)), H', ⟨by first | omega | exact Nat.le_refl _⟩, ⟨by repeat (first | (with_reducible first | exact HB.out | apply below_alloc | apply pw_below_drewN | apply below_drew1) | exact HB.out)⟩⟩
          · rw [if_neg c13] at H
            have c13b0 : (t160 == 0) = false := beq_eq_false_iff_ne.mpr c13
            have c13b1 : (t160 != 0) = true := bne_iff_ne.mpr c13
            have H' := Aside0.mk H
            clear H
            go_wp2
            go_meet
            case rel => exact ⟨_, (true), (by first | rfl | (simp; done) | (simp [*]; done)), H', ⟨by first | omega | exact Nat.le_refl _⟩, ⟨by repeat (first | (with_reducible first | exact HB.out | apply below_alloc | apply pw_below_drewN | apply below_drew1) | exact HB.out)⟩⟩
        · rw [if_neg c12] at H
          have c12b0 : (t157 == 0) = false := beq_eq_false_iff_ne.mpr c12
          have c12b1 : (t157 != 0) = true := bne_iff_ne.mpr c12
          have H' := Aside0.mk H
          clear H
          go_wp2
          go_meet
          case rel => exact ⟨_, (true), (by first | rfl | (simp; done) | (simp [*]; done)), H', ⟨by first | omega | exact Nat.le_refl _⟩, ⟨by repeat (first | (with_reducible first | exact HB.out | apply below_alloc | apply pw_below_drewN | apply below_drew1) | exact HB.out)⟩⟩
      · rw [if_neg c11] at H
        have c11b0 : (t155 == 0) = false := beq_eq_false_iff_ne.mpr c11
        have c11b1 : (t155 != 0) = true := bne_iff_ne.mpr c11
        (first | rw [c11b0] | (simp only [i64_w, i32_w]; rw [c11b0]) | skip)
        have H' := Aside0.mk H
        clear H
        go_wp2
        go_meet
        case rel => exact ⟨_, (true), (by first | rfl | (simp; done) | (simp [*]; done)), H', ⟨by first | omega | exact Nat.le_refl _⟩, ⟨by repeat (first | (with_reducible first | exact HB.out | apply below_alloc | apply pw_below_drewN | apply below_drew1) | exact HB.out)⟩⟩
    case rest =>
      clear HC8
      try clear c1
      try clear p2
      try clear c3
      try clear c4
      try clear p6
      try clear c11
      try clear c11b0
      try clear c11b1
      try clear c12
      try clear c12b0
      try clear c12b1
      try clear c13
      try clear c13b0
      try clear c13b1
      obtain ⟨kq, x60_7, rfl, HA, HJ7, HB⟩ := hcut
      cases kq with
      | zero => exact absurd HA.out (by simp [passbooklaw04_BasisYears.j0])
      | succ kj7 =>
        have H := HA.out
        clear HA
        simp only [passbooklaw04_BasisYears.j0] at H
        by_cases c14 : x60_7 = true
        · subst c14
          have H1 : (some false) = some r := by rw [if_pos rfl] at H; exact H
          clear H
          have H := H1
          clear H1
          obtain rfl := Option.some.inj H
          go_wp2
          go_ret
          exact ⟨by first | rfl | (simp [errW_none, errW_some] <;> rfl) | (simp [*, errW_none, errW_some] <;> rfl), by repeat (first | (with_reducible first | exact HB.out | apply below_alloc | apply pw_below_drewN | apply below_drew1) | exact HB.out)⟩
        · replace c14 := Bool.eq_false_iff.mpr c14
          subst c14
          have H1 : ((cal_Civil.f kj7 (wrap64 (1 + (wrap64 (Int.tmod (IntKind.u64.wrap (a0)) 3651693))))).bind fun bt161 => ((cal_AddMonths.f kj7 (wrap64 (1 + (wrap64 (Int.tmod (IntKind.u64.wrap (a0)) 3651693)))) 12).bind fun bt165 => ((basis_Part.f kj7 2 (wrap64 (1 + (wrap64 (Int.tmod (IntKind.u64.wrap (a0)) 3651693)))) bt165.1).bind fun bt167 => (if bt161.2.2.2 = 0 then (if bt165.2 = 0 then (if bt167.2.2 = 0 then (if bt167.2.1 = 360 then (if bt167.1 = 360 then (some true) else (if bt161.2.1 = 2 then (if bt161.2.2.1 = 29 then (some (bt167.1 == 359)) else (some false)) else (some false))) else (some false)) else (some false)) else (some false)) else (some false))))) = some r := by rw [if_neg (show ¬ (false = true) by decide)] at H; exact H
          clear H
          have H := H1
          clear H1
          replace H := Option.bind_eq_some_iff.mp H
          obtain ⟨⟨t161, t162, t163, t164⟩, A150, H⟩ := H
          replace H : ((cal_AddMonths.f kj7 (wrap64 (1 + (wrap64 (Int.tmod (IntKind.u64.wrap (a0)) 3651693)))) 12).bind fun bt165 => ((basis_Part.f kj7 2 (wrap64 (1 + (wrap64 (Int.tmod (IntKind.u64.wrap (a0)) 3651693)))) bt165.1).bind fun bt167 => (if t164 = 0 then (if bt165.2 = 0 then (if bt167.2.2 = 0 then (if bt167.2.1 = 360 then (if bt167.1 = 360 then (some true) else (if t162 = 2 then (if t163 = 29 then (some (bt167.1 == 359)) else (some false)) else (some false))) else (some false)) else (some false)) else (some false)) else (some false)))) = some r := H
          have A15 := Aside0.mk A150
          clear A150
          replace H := Option.bind_eq_some_iff.mp H
          obtain ⟨⟨t165, t166⟩, A160, H⟩ := H
          replace H : ((basis_Part.f kj7 2 (wrap64 (1 + (wrap64 (Int.tmod (IntKind.u64.wrap (a0)) 3651693)))) t165).bind fun bt167 => (if t164 = 0 then (if t166 = 0 then (if bt167.2.2 = 0 then (if bt167.2.1 = 360 then (if bt167.1 = 360 then (some true) else (if t162 = 2 then (if t163 = 29 then (some (bt167.1 == 359)) else (some false)) else (some false))) else (some false)) else (some false)) else (some false)) else (some false))) = some r := H
          have A16 := Aside0.mk A160
          clear A160
          replace H := Option.bind_eq_some_iff.mp H
          obtain ⟨⟨t167, t168, t169⟩, A170, H⟩ := H
          replace H : (if t164 = 0 then (if t166 = 0 then (if t169 = 0 then (if t168 = 360 then (if t167 = 360 then (some true) else (if t162 = 2 then (if t163 = 29 then (some (t167 == 359)) else (some false)) else (some false))) else (some false)) else (some false)) else (some false)) else (some false)) = some r := H
          have A17 := Aside0.mk A170
          clear A170
          by_cases c18 : t164 = 0
          · rw [if_pos c18] at H
            have c18b0 : (t164 == 0) = true := beq_iff_eq.mpr c18
            have c18b1 : (t164 != 0) = false := bne_eq_false_iff_eq.mpr c18
            clear c18
            by_cases c19 : t166 = 0
            · rw [if_pos c19] at H
              have c19b0 : (t166 == 0) = true := beq_iff_eq.mpr c19
              have c19b1 : (t166 != 0) = false := bne_eq_false_iff_eq.mpr c19
              clear c19
              by_cases c20 : t169 = 0
              · rw [if_pos c20] at H
                have c20b0 : (t169 == 0) = true := beq_iff_eq.mpr c20
                have c20b1 : (t169 != 0) = false := bne_eq_false_iff_eq.mpr c20
                clear c20
                by_cases c21 : t168 = 360
                · rw [if_pos c21] at H
                  have c21b0 : (t168 == 360) = true := beq_iff_eq.mpr c21
                  have c21b1 : (t168 != 360) = false := bne_eq_false_iff_eq.mpr c21
                  clear c21
                  by_cases c22 : t167 = 360
                  · rw [if_pos c22] at H
                    have c22b0 : (t167 == 360) = true := beq_iff_eq.mpr c22
                    have c22b1 : (t167 != 360) = false := bne_eq_false_iff_eq.mpr c22
                    clear c22
                    obtain rfl := Option.some.inj H
                    go_wp2_with (first | ((with_reducible refine gate_callee (f := 14) rfl ?_); refine goesL_ (some 68) rfl rfl Try.func14 (by kernel_rfl) rfl #[.int .i64 (wrap64 (1 + (wrap64 (Int.tmod (IntKind.u64.wrap (a0)) 3651693))))] rfl (by (try simp only [List.map_toArray, List.map_cons, List.map_nil]); first | done | rfl | (simp only [List.length_drop, List.length_take]; rfl)) ?_; (with_reducible refine (cal_Civil.calls kj7 (wrap64 (1 + (wrap64 (Int.tmod (IntKind.u64.wrap (a0)) 3651693)))) t161 t162 t163 t164 _ A15.out).mono ?_); rintro e w' ⟨rfl, ⟨nd, rfl⟩⟩; refine ⟨_, rfl, ?_⟩) | ((with_reducible refine gate_callee (f := 17) rfl ?_); refine goesL_ (some 75) rfl rfl Try.func17 (by kernel_rfl) rfl #[.int .i64 (wrap64 (1 + (wrap64 (Int.tmod (IntKind.u64.wrap (a0)) 3651693)))), .int .i64 12] rfl (by (try simp only [List.map_toArray, List.map_cons, List.map_nil]); first | done | rfl | (simp only [List.length_drop, List.length_take]; rfl)) ?_; (with_reducible refine (cal_AddMonths.calls kj7 (wrap64 (1 + (wrap64 (Int.tmod (IntKind.u64.wrap (a0)) 3651693)))) 12 t165 t166 _ A16.out).mono ?_); rintro e w23 ⟨rfl, hb⟩; refine ⟨_, rfl, ?_⟩; have n0_ := Aside0.mk (below_step (by repeat (first | (with_reducible first | exact HB.out | apply below_alloc | apply pw_below_drewN | apply below_drew1) | exact HB.out)) hb); clear HB; have HB := n0_; clear n0_; (try clear hb); (try clear hb2); (try clear hk); (try clear hi)) | ((with_reducible refine gate_callee (f := 32) rfl ?_); refine goesL_ (some 81) rfl rfl Try.func32 (by kernel_rfl) rfl #[.int .i64 2, .int .i64 (wrap64 (1 + (wrap64 (Int.tmod (IntKind.u64.wrap (a0)) 3651693)))), .int .i64 t165] rfl (by (try simp only [List.map_toArray, List.map_cons, List.map_nil]); first | done | rfl | (simp only [List.length_drop, List.length_take]; rfl)) ?_; (with_reducible refine (basis_Part.calls kj7 2 (wrap64 (1 + (wrap64 (Int.tmod (IntKind.u64.wrap (a0)) 3651693)))) t165 t167 t168 t169 _ A17.out).mono ?_); rintro e w24 ⟨rfl, hb⟩; refine ⟨_, rfl, ?_⟩; have n0_ := Aside0.mk (below_step (by repeat (first | (with_reducible first | exact HB.out | apply below_alloc | apply pw_below_drewN | apply below_drew1) | exact HB.out)) hb); clear HB; have HB := n0_; clear n0_; (try clear hb); (try clear hb2); (try clear hk); (try clear hi)))
                    go_ret
                    exact ⟨by first | rfl | (simp [errW_none, errW_some] <;> rfl) | (simp [*, errW_none, errW_some] <;> rfl), by repeat (first | (with_reducible first | exact HB.out | apply below_alloc | apply pw_below_drewN | apply below_drew1) | exact HB.out)⟩
                  · rw [if_neg c22] at H
                    have c22b0 : (t167 == 360) = false := beq_eq_false_iff_ne.mpr c22
                    have c22b1 : (t167 != 360) = true := bne_iff_ne.mpr c22
                    by_cases c25 : t162 = 2
                    · rw [if_pos c25] at H
                      have c25b0 : (t162 == 2) = true := beq_iff_eq.mpr c25
                      have c25b1 : (t162 != 2) = false := bne_eq_false_iff_eq.mpr c25
                      clear c25
                      by_cases c26 : t163 = 29
                      · rw [if_pos c26] at H
                        have c26b0 : (t163 == 29) = true := beq_iff_eq.mpr c26
                        have c26b1 : (t163 != 29) = false := bne_eq_false_iff_eq.mpr c26
                        clear c26
                        obtain rfl := Option.some.inj H
                        go_wp2_with (first | ((with_reducible refine gate_callee (f := 14) rfl ?_); refine goesL_ (some 68) rfl rfl Try.func14 (by kernel_rfl) rfl #[.int .i64 (wrap64 (1 + (wrap64 (Int.tmod (IntKind.u64.wrap (a0)) 3651693))))] rfl (by (try simp only [List.map_toArray, List.map_cons, List.map_nil]); first | done | rfl | (simp only [List.length_drop, List.length_take]; rfl)) ?_; (with_reducible refine (cal_Civil.calls kj7 (wrap64 (1 + (wrap64 (Int.tmod (IntKind.u64.wrap (a0)) 3651693)))) t161 t162 t163 t164 _ A15.out).mono ?_); rintro e w' ⟨rfl, ⟨nd, rfl⟩⟩; refine ⟨_, rfl, ?_⟩) | ((with_reducible refine gate_callee (f := 17) rfl ?_); refine goesL_ (some 75) rfl rfl Try.func17 (by kernel_rfl) rfl #[.int .i64 (wrap64 (1 + (wrap64 (Int.tmod (IntKind.u64.wrap (a0)) 3651693)))), .int .i64 12] rfl (by (try simp only [List.map_toArray, List.map_cons, List.map_nil]); first | done | rfl | (simp only [List.length_drop, List.length_take]; rfl)) ?_; (with_reducible refine (cal_AddMonths.calls kj7 (wrap64 (1 + (wrap64 (Int.tmod (IntKind.u64.wrap (a0)) 3651693)))) 12 t165 t166 _ A16.out).mono ?_); rintro e w27 ⟨rfl, hb⟩; refine ⟨_, rfl, ?_⟩; have n0_ := Aside0.mk (below_step (by repeat (first | (with_reducible first | exact HB.out | apply below_alloc | apply pw_below_drewN | apply below_drew1) | exact HB.out)) hb); clear HB; have HB := n0_; clear n0_; (try clear hb); (try clear hb2); (try clear hk); (try clear hi)) | ((with_reducible refine gate_callee (f := 32) rfl ?_); refine goesL_ (some 81) rfl rfl Try.func32 (by kernel_rfl) rfl #[.int .i64 2, .int .i64 (wrap64 (1 + (wrap64 (Int.tmod (IntKind.u64.wrap (a0)) 3651693)))), .int .i64 t165] rfl (by (try simp only [List.map_toArray, List.map_cons, List.map_nil]); first | done | rfl | (simp only [List.length_drop, List.length_take]; rfl)) ?_; (with_reducible refine (basis_Part.calls kj7 2 (wrap64 (1 + (wrap64 (Int.tmod (IntKind.u64.wrap (a0)) 3651693)))) t165 t167 t168 t169 _ A17.out).mono ?_); rintro e w28 ⟨rfl, hb⟩; refine ⟨_, rfl, ?_⟩; have n0_ := Aside0.mk (below_step (by repeat (first | (with_reducible first | exact HB.out | apply below_alloc | apply pw_below_drewN | apply below_drew1) | exact HB.out)) hb); clear HB; have HB := n0_; clear n0_; (try clear hb); (try clear hb2); (try clear hk); (try clear hi)))
                        go_ret
                        exact ⟨by first | rfl | (simp [errW_none, errW_some] <;> rfl) | (simp [*, errW_none, errW_some] <;> rfl), by repeat (first | (with_reducible first | exact HB.out | apply below_alloc | apply pw_below_drewN | apply below_drew1) | exact HB.out)⟩
                      · rw [if_neg c26] at H
                        have c26b0 : (t163 == 29) = false := beq_eq_false_iff_ne.mpr c26
                        have c26b1 : (t163 != 29) = true := bne_iff_ne.mpr c26
                        obtain rfl := Option.some.inj H
                        go_wp2_with (first | ((with_reducible refine gate_callee (f := 14) rfl ?_); refine goesL_ (some 68) rfl rfl Try.func14 (by kernel_rfl) rfl #[.int .i64 (wrap64 (1 + (wrap64 (Int.tmod (IntKind.u64.wrap (a0)) 3651693))))] rfl (by (try simp only [List.map_toArray, List.map_cons, List.map_nil]); first | done | rfl | (simp only [List.length_drop, List.length_take]; rfl)) ?_; (with_reducible refine (cal_Civil.calls kj7 (wrap64 (1 + (wrap64 (Int.tmod (IntKind.u64.wrap (a0)) 3651693)))) t161 t162 t163 t164 _ A15.out).mono ?_); rintro e w' ⟨rfl, ⟨nd, rfl⟩⟩; refine ⟨_, rfl, ?_⟩) | ((with_reducible refine gate_callee (f := 17) rfl ?_); refine goesL_ (some 75) rfl rfl Try.func17 (by kernel_rfl) rfl #[.int .i64 (wrap64 (1 + (wrap64 (Int.tmod (IntKind.u64.wrap (a0)) 3651693)))), .int .i64 12] rfl (by (try simp only [List.map_toArray, List.map_cons, List.map_nil]); first | done | rfl | (simp only [List.length_drop, List.length_take]; rfl)) ?_; (with_reducible refine (cal_AddMonths.calls kj7 (wrap64 (1 + (wrap64 (Int.tmod (IntKind.u64.wrap (a0)) 3651693)))) 12 t165 t166 _ A16.out).mono ?_); rintro e w29 ⟨rfl, hb⟩; refine ⟨_, rfl, ?_⟩; have n0_ := Aside0.mk (below_step (by repeat (first | (with_reducible first | exact HB.out | apply below_alloc | apply pw_below_drewN | apply below_drew1) | exact HB.out)) hb); clear HB; have HB := n0_; clear n0_; (try clear hb); (try clear hb2); (try clear hk); (try clear hi)) | ((with_reducible refine gate_callee (f := 32) rfl ?_); refine goesL_ (some 81) rfl rfl Try.func32 (by kernel_rfl) rfl #[.int .i64 2, .int .i64 (wrap64 (1 + (wrap64 (Int.tmod (IntKind.u64.wrap (a0)) 3651693)))), .int .i64 t165] rfl (by (try simp only [List.map_toArray, List.map_cons, List.map_nil]); first | done | rfl | (simp only [List.length_drop, List.length_take]; rfl)) ?_; (with_reducible refine (basis_Part.calls kj7 2 (wrap64 (1 + (wrap64 (Int.tmod (IntKind.u64.wrap (a0)) 3651693)))) t165 t167 t168 t169 _ A17.out).mono ?_); rintro e w30 ⟨rfl, hb⟩; refine ⟨_, rfl, ?_⟩; have n0_ := Aside0.mk (below_step (by repeat (first | (with_reducible first | exact HB.out | apply below_alloc | apply pw_below_drewN | apply below_drew1) | exact HB.out)) hb); clear HB; have HB := n0_; clear n0_; (try clear hb); (try clear hb2); (try clear hk); (try clear hi)))
                        go_ret
                        exact ⟨by first | rfl | (simp [errW_none, errW_some] <;> rfl) | (simp [*, errW_none, errW_some] <;> rfl), by repeat (first | (with_reducible first | exact HB.out | apply below_alloc | apply pw_below_drewN | apply below_drew1) | exact HB.out)⟩
                    · rw [if_neg c25] at H
                      have c25b0 : (t162 == 2) = false := beq_eq_false_iff_ne.mpr c25
                      have c25b1 : (t162 != 2) = true := bne_iff_ne.mpr c25
                      obtain rfl := Option.some.inj H
                      go_wp2_with (first | ((with_reducible refine gate_callee (f := 14) rfl ?_); refine goesL_ (some 68) rfl rfl Try.func14 (by kernel_rfl) rfl #[.int .i64 (wrap64 (1 + (wrap64 (Int.tmod (IntKind.u64.wrap (a0)) 3651693))))] rfl (by (try simp only [List.map_toArray, List.map_cons, List.map_nil]); first | done | rfl | (simp only [List.length_drop, List.length_take]; rfl)) ?_; (with_reducible refine (cal_Civil.calls kj7 (wrap64 (1 + (wrap64 (Int.tmod (IntKind.u64.wrap (a0)) 3651693)))) t161 t162 t163 t164 _ A15.out).mono ?_); rintro e w' ⟨rfl, ⟨nd, rfl⟩⟩; refine ⟨_, rfl, ?_⟩) | ((with_reducible refine gate_callee (f := 17) rfl ?_); refine goesL_ (some 75) rfl rfl Try.func17 (by kernel_rfl) rfl #[.int .i64 (wrap64 (1 + (wrap64 (Int.tmod (IntKind.u64.wrap (a0)) 3651693)))), .int .i64 12] rfl (by (try simp only [List.map_toArray, List.map_cons, List.map_nil]); first | done | rfl | (simp only [List.length_drop, List.length_take]; rfl)) ?_; (with_reducible refine (cal_AddMonths.calls kj7 (wrap64 (1 + (wrap64 (Int.tmod (IntKind.u64.wrap (a0)) 3651693)))) 12 t165 t166 _ A16.out).mono ?_); rintro e w31 ⟨rfl, hb⟩; refine ⟨_, rfl, ?_⟩; have n0_ := Aside0.mk (below_step (by repeat (first | (with_reducible first | exact HB.out | apply below_alloc | apply pw_below_drewN | apply below_drew1) | exact HB.out)) hb); clear HB; have HB := n0_; clear n0_; (try clear hb); (try clear hb2); (try clear hk); (try clear hi)) | ((with_reducible refine gate_callee (f := 32) rfl ?_); refine goesL_ (some 81) rfl rfl Try.func32 (by kernel_rfl) rfl #[.int .i64 2, .int .i64 (wrap64 (1 + (wrap64 (Int.tmod (IntKind.u64.wrap (a0)) 3651693)))), .int .i64 t165] rfl (by (try simp only [List.map_toArray, List.map_cons, List.map_nil]); first | done | rfl | (simp only [List.length_drop, List.length_take]; rfl)) ?_; (with_reducible refine (basis_Part.calls kj7 2 (wrap64 (1 + (wrap64 (Int.tmod (IntKind.u64.wrap (a0)) 3651693)))) t165 t167 t168 t169 _ A17.out).mono ?_); rintro e w32 ⟨rfl, hb⟩; refine ⟨_, rfl, ?_⟩; have n0_ := Aside0.mk (below_step (by repeat (first | (with_reducible first | exact HB.out | apply below_alloc | apply pw_below_drewN | apply below_drew1) | exact HB.out)) hb); clear HB; have HB := n0_; clear n0_; (try clear hb); (try clear hb2); (try clear hk); (try clear hi)))
                      go_ret
                      exact ⟨by first | rfl | (simp [errW_none, errW_some] <;> rfl) | (simp [*, errW_none, errW_some] <;> rfl), by repeat (first | (with_reducible first | exact HB.out | apply below_alloc | apply pw_below_drewN | apply below_drew1) | exact HB.out)⟩
                · rw [if_neg c21] at H
                  have c21b0 : (t168 == 360) = false := beq_eq_false_iff_ne.mpr c21
                  have c21b1 : (t168 != 360) = true := bne_iff_ne.mpr c21
                  obtain rfl := Option.some.inj H
                  go_wp2_with (first | ((with_reducible refine gate_callee (f := 14) rfl ?_); refine goesL_ (some 68) rfl rfl Try.func14 (by kernel_rfl) rfl #[.int .i64 (wrap64 (1 + (wrap64 (Int.tmod (IntKind.u64.wrap (a0)) 3651693))))] rfl (by (try simp only [List.map_toArray, List.map_cons, List.map_nil]); first | done | rfl | (simp only [List.length_drop, List.length_take]; rfl)) ?_; (with_reducible refine (cal_Civil.calls kj7 (wrap64 (1 + (wrap64 (Int.tmod (IntKind.u64.wrap (a0)) 3651693)))) t161 t162 t163 t164 _ A15.out).mono ?_); rintro e w' ⟨rfl, ⟨nd, rfl⟩⟩; refine ⟨_, rfl, ?_⟩) | ((with_reducible refine gate_callee (f := 17) rfl ?_); refine goesL_ (some 75) rfl rfl Try.func17 (by kernel_rfl) rfl #[.int .i64 (wrap64 (1 + (wrap64 (Int.tmod (IntKind.u64.wrap (a0)) 3651693)))), .int .i64 12] rfl (by (try simp only [List.map_toArray, List.map_cons, List.map_nil]); first | done | rfl | (simp only [List.length_drop, List.length_take]; rfl)) ?_; (with_reducible refine (cal_AddMonths.calls kj7 (wrap64 (1 + (wrap64 (Int.tmod (IntKind.u64.wrap (a0)) 3651693)))) 12 t165 t166 _ A16.out).mono ?_); rintro e w33 ⟨rfl, hb⟩; refine ⟨_, rfl, ?_⟩; have n0_ := Aside0.mk (below_step (by repeat (first | (with_reducible first | exact HB.out | apply below_alloc | apply pw_below_drewN | apply below_drew1) | exact HB.out)) hb); clear HB; have HB := n0_; clear n0_; (try clear hb); (try clear hb2); (try clear hk); (try clear hi)) | ((with_reducible refine gate_callee (f := 32) rfl ?_); refine goesL_ (some 81) rfl rfl Try.func32 (by kernel_rfl) rfl #[.int .i64 2, .int .i64 (wrap64 (1 + (wrap64 (Int.tmod (IntKind.u64.wrap (a0)) 3651693)))), .int .i64 t165] rfl (by (try simp only [List.map_toArray, List.map_cons, List.map_nil]); first | done | rfl | (simp only [List.length_drop, List.length_take]; rfl)) ?_; (with_reducible refine (basis_Part.calls kj7 2 (wrap64 (1 + (wrap64 (Int.tmod (IntKind.u64.wrap (a0)) 3651693)))) t165 t167 t168 t169 _ A17.out).mono ?_); rintro e w34 ⟨rfl, hb⟩; refine ⟨_, rfl, ?_⟩; have n0_ := Aside0.mk (below_step (by repeat (first | (with_reducible first | exact HB.out | apply below_alloc | apply pw_below_drewN | apply below_drew1) | exact HB.out)) hb); clear HB; have HB := n0_; clear n0_; (try clear hb); (try clear hb2); (try clear hk); (try clear hi)))
                  go_ret
                  exact ⟨by first | rfl | (simp [errW_none, errW_some] <;> rfl) | (simp [*, errW_none, errW_some] <;> rfl), by repeat (first | (with_reducible first | exact HB.out | apply below_alloc | apply pw_below_drewN | apply below_drew1) | exact HB.out)⟩
              · rw [if_neg c20] at H
                have c20b0 : (t169 == 0) = false := beq_eq_false_iff_ne.mpr c20
                have c20b1 : (t169 != 0) = true := bne_iff_ne.mpr c20
                obtain rfl := Option.some.inj H
                go_wp2_with (first | ((with_reducible refine gate_callee (f := 14) rfl ?_); refine goesL_ (some 68) rfl rfl Try.func14 (by kernel_rfl) rfl #[.int .i64 (wrap64 (1 + (wrap64 (Int.tmod (IntKind.u64.wrap (a0)) 3651693))))] rfl (by (try simp only [List.map_toArray, List.map_cons, List.map_nil]); first | done | rfl | (simp only [List.length_drop, List.length_take]; rfl)) ?_; (with_reducible refine (cal_Civil.calls kj7 (wrap64 (1 + (wrap64 (Int.tmod (IntKind.u64.wrap (a0)) 3651693)))) t161 t162 t163 t164 _ A15.out).mono ?_); rintro e w' ⟨rfl, ⟨nd, rfl⟩⟩; refine ⟨_, rfl, ?_⟩) | ((with_reducible refine gate_callee (f := 17) rfl ?_); refine goesL_ (some 75) rfl rfl Try.func17 (by kernel_rfl) rfl #[.int .i64 (wrap64 (1 + (wrap64 (Int.tmod (IntKind.u64.wrap (a0)) 3651693)))), .int .i64 12] rfl (by (try simp only [List.map_toArray, List.map_cons, List.map_nil]); first | done | rfl | (simp only [List.length_drop, List.length_take]; rfl)) ?_; (with_reducible refine (cal_AddMonths.calls kj7 (wrap64 (1 + (wrap64 (Int.tmod (IntKind.u64.wrap (a0)) 3651693)))) 12 t165 t166 _ A16.out).mono ?_); rintro e w35 ⟨rfl, hb⟩; refine ⟨_, rfl, ?_⟩; have n0_ := Aside0.mk (below_step (by repeat (first | (with_reducible first | exact HB.out | apply below_alloc | apply pw_below_drewN | apply below_drew1) | exact HB.out)) hb); clear HB; have HB := n0_; clear n0_; (try clear hb); (try clear hb2); (try clear hk); (try clear hi)) | ((with_reducible refine gate_callee (f := 32) rfl ?_); refine goesL_ (some 81) rfl rfl Try.func32 (by kernel_rfl) rfl #[.int .i64 2, .int .i64 (wrap64 (1 + (wrap64 (Int.tmod (IntKind.u64.wrap (a0)) 3651693)))), .int .i64 t165] rfl (by (try simp only [List.map_toArray, List.map_cons, List.map_nil]); first | done | rfl | (simp only [List.length_drop, List.length_take]; rfl)) ?_; (with_reducible refine (basis_Part.calls kj7 2 (wrap64 (1 + (wrap64 (Int.tmod (IntKind.u64.wrap (a0)) 3651693)))) t165 t167 t168 t169 _ A17.out).mono ?_); rintro e w36 ⟨rfl, hb⟩; refine ⟨_, rfl, ?_⟩; have n0_ := Aside0.mk (below_step (by repeat (first | (with_reducible first | exact HB.out | apply below_alloc | apply pw_below_drewN | apply below_drew1) | exact HB.out)) hb); clear HB; have HB := n0_; clear n0_; (try clear hb); (try clear hb2); (try clear hk); (try clear hi)))
                go_ret
                exact ⟨by first | rfl | (simp [errW_none, errW_some] <;> rfl) | (simp [*, errW_none, errW_some] <;> rfl), by repeat (first | (with_reducible first | exact HB.out | apply below_alloc | apply pw_below_drewN | apply below_drew1) | exact HB.out)⟩
            · rw [if_neg c19] at H
              have c19b0 : (t166 == 0) = false := beq_eq_false_iff_ne.mpr c19
              have c19b1 : (t166 != 0) = true := bne_iff_ne.mpr c19
              obtain rfl := Option.some.inj H
              go_wp2_with (first | ((with_reducible refine gate_callee (f := 14) rfl ?_); refine goesL_ (some 68) rfl rfl Try.func14 (by kernel_rfl) rfl #[.int .i64 (wrap64 (1 + (wrap64 (Int.tmod (IntKind.u64.wrap (a0)) 3651693))))] rfl (by (try simp only [List.map_toArray, List.map_cons, List.map_nil]); first | done | rfl | (simp only [List.length_drop, List.length_take]; rfl)) ?_; (with_reducible refine (cal_Civil.calls kj7 (wrap64 (1 + (wrap64 (Int.tmod (IntKind.u64.wrap (a0)) 3651693)))) t161 t162 t163 t164 _ A15.out).mono ?_); rintro e w' ⟨rfl, ⟨nd, rfl⟩⟩; refine ⟨_, rfl, ?_⟩) | ((with_reducible refine gate_callee (f := 17) rfl ?_); refine goesL_ (some 75) rfl rfl Try.func17 (by kernel_rfl) rfl #[.int .i64 (wrap64 (1 + (wrap64 (Int.tmod (IntKind.u64.wrap (a0)) 3651693)))), .int .i64 12] rfl (by (try simp only [List.map_toArray, List.map_cons, List.map_nil]); first | done | rfl | (simp only [List.length_drop, List.length_take]; rfl)) ?_; (with_reducible refine (cal_AddMonths.calls kj7 (wrap64 (1 + (wrap64 (Int.tmod (IntKind.u64.wrap (a0)) 3651693)))) 12 t165 t166 _ A16.out).mono ?_); rintro e w37 ⟨rfl, hb⟩; refine ⟨_, rfl, ?_⟩; have n0_ := Aside0.mk (below_step (by repeat (first | (with_reducible first | exact HB.out | apply below_alloc | apply pw_below_drewN | apply below_drew1) | exact HB.out)) hb); clear HB; have HB := n0_; clear n0_; (try clear hb); (try clear hb2); (try clear hk); (try clear hi)) | ((with_reducible refine gate_callee (f := 32) rfl ?_); refine goesL_ (some 81) rfl rfl Try.func32 (by kernel_rfl) rfl #[.int .i64 2, .int .i64 (wrap64 (1 + (wrap64 (Int.tmod (IntKind.u64.wrap (a0)) 3651693)))), .int .i64 t165] rfl (by (try simp only [List.map_toArray, List.map_cons, List.map_nil]); first | done | rfl | (simp only [List.length_drop, List.length_take]; rfl)) ?_; (with_reducible refine (basis_Part.calls kj7 2 (wrap64 (1 + (wrap64 (Int.tmod (IntKind.u64.wrap (a0)) 3651693)))) t165 t167 t168 t169 _ A17.out).mono ?_); rintro e w38 ⟨rfl, hb⟩; refine ⟨_, rfl, ?_⟩; have n0_ := Aside0.mk (below_step (by repeat (first | (with_reducible first | exact HB.out | apply below_alloc | apply pw_below_drewN | apply below_drew1) | exact HB.out)) hb); clear HB; have HB := n0_; clear n0_; (try clear hb); (try clear hb2); (try clear hk); (try clear hi)))
              go_ret
              exact ⟨by first | rfl | (simp [errW_none, errW_some] <;> rfl) | (simp [*, errW_none, errW_some] <;> rfl), by repeat (first | (with_reducible first | exact HB.out | apply below_alloc | apply pw_below_drewN | apply below_drew1) | exact HB.out)⟩
          · rw [if_neg c18] at H
            have c18b0 : (t164 == 0) = false := beq_eq_false_iff_ne.mpr c18
            have c18b1 : (t164 != 0) = true := bne_iff_ne.mpr c18
            obtain rfl := Option.some.inj H
            go_wp2_with (first | ((with_reducible refine gate_callee (f := 14) rfl ?_); refine goesL_ (some 68) rfl rfl Try.func14 (by kernel_rfl) rfl #[.int .i64 (wrap64 (1 + (wrap64 (Int.tmod (IntKind.u64.wrap (a0)) 3651693))))] rfl (by (try simp only [List.map_toArray, List.map_cons, List.map_nil]); first | done | rfl | (simp only [List.length_drop, List.length_take]; rfl)) ?_; (with_reducible refine (cal_Civil.calls kj7 (wrap64 (1 + (wrap64 (Int.tmod (IntKind.u64.wrap (a0)) 3651693)))) t161 t162 t163 t164 _ A15.out).mono ?_); rintro e w' ⟨rfl, ⟨nd, rfl⟩⟩; refine ⟨_, rfl, ?_⟩) | ((with_reducible refine gate_callee (f := 17) rfl ?_); refine goesL_ (some 75) rfl rfl Try.func17 (by kernel_rfl) rfl #[.int .i64 (wrap64 (1 + (wrap64 (Int.tmod (IntKind.u64.wrap (a0)) 3651693)))), .int .i64 12] rfl (by (try simp only [List.map_toArray, List.map_cons, List.map_nil]); first | done | rfl | (simp only [List.length_drop, List.length_take]; rfl)) ?_; (with_reducible refine (cal_AddMonths.calls kj7 (wrap64 (1 + (wrap64 (Int.tmod (IntKind.u64.wrap (a0)) 3651693)))) 12 t165 t166 _ A16.out).mono ?_); rintro e w39 ⟨rfl, hb⟩; refine ⟨_, rfl, ?_⟩; have n0_ := Aside0.mk (below_step (by repeat (first | (with_reducible first | exact HB.out | apply below_alloc | apply pw_below_drewN | apply below_drew1) | exact HB.out)) hb); clear HB; have HB := n0_; clear n0_; (try clear hb); (try clear hb2); (try clear hk); (try clear hi)) | ((with_reducible refine gate_callee (f := 32) rfl ?_); refine goesL_ (some 81) rfl rfl Try.func32 (by kernel_rfl) rfl #[.int .i64 2, .int .i64 (wrap64 (1 + (wrap64 (Int.tmod (IntKind.u64.wrap (a0)) 3651693)))), .int .i64 t165] rfl (by (try simp only [List.map_toArray, List.map_cons, List.map_nil]); first | done | rfl | (simp only [List.length_drop, List.length_take]; rfl)) ?_; (with_reducible refine (basis_Part.calls kj7 2 (wrap64 (1 + (wrap64 (Int.tmod (IntKind.u64.wrap (a0)) 3651693)))) t165 t167 t168 t169 _ A17.out).mono ?_); rintro e w40 ⟨rfl, hb⟩; refine ⟨_, rfl, ?_⟩; have n0_ := Aside0.mk (below_step (by repeat (first | (with_reducible first | exact HB.out | apply below_alloc | apply pw_below_drewN | apply below_drew1) | exact HB.out)) hb); clear HB; have HB := n0_; clear n0_; (try clear hb); (try clear hb2); (try clear hk); (try clear hi)))
            go_ret
            exact ⟨by first | rfl | (simp [errW_none, errW_some] <;> rfl) | (simp [*, errW_none, errW_some] <;> rfl), by repeat (first | (with_reducible first | exact HB.out | apply below_alloc | apply pw_below_drewN | apply below_drew1) | exact HB.out)⟩
  · replace c4 := Bool.eq_false_iff.mpr c4
    subst c4
    have H1 : (some false) = some r := by rw [if_neg (show ¬ (false = true) by decide)] at H; exact H
    clear H
    have H := H1
    clear H1
    obtain rfl := Option.some.inj H
    go_enter Try.func11, Try.ntmps11
    go_wp2_with (first | ((with_reducible refine gate_callee (f := 30) rfl ?_); refine goesL_ (some 22) rfl rfl Try.func30 (by kernel_rfl) rfl #[] rfl (by (try simp only [List.map_toArray, List.map_cons, List.map_nil]); first | done | rfl | (simp only [List.length_drop, List.length_take]; rfl)) ?_; (with_reducible refine (passbooklaw04_awake.calls k  false _ A3.out).mono ?_); rintro e w41 ⟨rfl, hb⟩; refine ⟨_, rfl, ?_⟩; have n0_ := Aside0.mk (below_step (by repeat (first | (with_reducible first | exact HB.out | apply below_alloc | apply pw_below_drewN | apply below_drew1) | exact HB.out)) hb); clear HB; have HB := n0_; clear n0_; (try clear hb); (try clear hb2); (try clear hk); (try clear hi)))
    go_ret
    exact ⟨by first | rfl | (simp [errW_none, errW_some] <;> rfl) | (simp [*, errW_none, errW_some] <;> rfl), by repeat (first | (with_reducible first | exact HB.out | apply below_alloc | apply pw_below_drewN | apply below_drew1) | exact HB.out)⟩

/-- THE ONE PURE STATEMENT of passbooklaw04_BasisYears: yours. -/
def passbooklaw04_BasisYears.Pure : Prop := ∀ (a0 : Int) (a1 : Int), (Lit.int .i64 a0).wf = true → (Lit.int .u16 a1).wf = true → ∃ k, passbooklaw04_BasisYears.f k a0 a1 = some true
theorem passbooklaw04_BasisYears.walk (P : passbooklaw04_BasisYears.Pure) (a0 : Int) (a1 : Int) (w : World) (w0 : (Lit.int .i64 a0).wf = true) (w1 : (Lit.int .u16 a1).wf = true) :
    Calls Try.prog 11 #[.int .i64 a0, .int .u16 a1] w fun e w' => e = .returned (.bool true) ∧ Below w.heap.size w w' := by
  obtain ⟨k, h⟩ := P a0 a1 w0 w1
  refine (passbooklaw04_BasisYears.calls k a0 a1 true w h).mono ?_
  rintro e w' ⟨rfl, hd⟩
  exact ⟨rfl, hd⟩

end Go.Proofs.Ytemijfjchoimpaa.PBasisYears

/- Several of my texts in one: plain facts about the printed functions. Conditions: none here. -/
import Derived.Test.YtfeifhlnidkbbaaGreatDoorFG
import Derived.Test.YtfeifhlnidkbbaaGreatDoorPWa
import Derived.KernelRfl
import Derived.Test.YtfeifhlnidkbbaaGreatDoorPXa
set_option linter.unusedVariables false
set_option linter.unusedSimpArgs false
namespace Go.Proofs.YtfeifhlnidkbbaaGreatDoor.Wide
open Go Go.RowKit Go.Proofs.YtfeifhlnidkbbaaGreatDoor.Vm
def Cu (c : Int) : Prop := 0 ≤ c ∧ c ≤ 3
def Am (n : Int) : Prop := -10000000000000 ≤ n ∧ n ≤ 10000000000000
instance (c : Int) : Decidable (Cu c) := inferInstanceAs (Decidable (0 ≤ c ∧ c ≤ 3))
instance (n : Int) : Decidable (Am n) := inferInstanceAs (Decidable (-10000000000000 ≤ n ∧ n ≤ 10000000000000))
theorem within_ok (K : Nat) (n : Int) : F.money_within K n = some (decide (Am n)) := by
  unfold F.money_within
  rw [bi_eq]
  by_cases h : n ≥ -10000000000000
  · rw [if_pos (by simpa using h)]
    congr 1
    apply decide_eq_decide.2
    unfold Am
    omega
  · rw [if_neg (by simpa using h)]
    have : ¬ Am n := by unfold Am; omega
    simp [this]
theorem name_in (K : Nat) {c : Int} (h : Cu c) : ∃ s, F.money_name K c = some s ∧ sEq s ⟨#[]⟩ = false ∧ s.size = 3 := by
  unfold F.money_name Cu at *
  simp only [bi_eq]
  obtain rfl | rfl | rfl | rfl : c = 0 ∨ c = 1 ∨ c = 2 ∨ c = 3 := by omega
  · exact ⟨_, by rw [if_pos (by decide)], by decide +kernel, rfl⟩
  · exact ⟨_, by rw [if_neg (by decide), if_pos (by decide)], by decide +kernel, rfl⟩
  · exact ⟨_, by rw [if_neg (by decide), if_neg (by decide), if_pos (by decide)], by decide +kernel, rfl⟩
  · exact ⟨_, by rw [if_neg (by decide), if_neg (by decide), if_neg (by decide), if_pos (by decide)], by decide +kernel, rfl⟩
theorem name_out (K : Nat) {c : Int} (h : ¬ Cu c) : F.money_name K c = some ⟨#[]⟩ := by
  unfold F.money_name Cu at *
  simp only [bi_eq]
  rw [if_neg (by simp; omega), if_neg (by simp; omega), if_neg (by simp; omega), if_neg (by simp; omega)]
theorem seq_nil : sEq ⟨#[]⟩ ⟨#[]⟩ = true := by decide +kernel
theorem mcheck_ok (K : Nat) (c n : Int) : F.money_Check K c n = some (if Cu c ∧ Am n then 0 else 3) := by
  unfold F.money_Check
  by_cases h : Cu c
  · obtain ⟨s, e1, e2, _⟩ := name_in K h
    rw [e1, Option.bind_some, bi_eq, if_neg (by rw [e2]; decide), within_ok, Option.bind_some, bi_eq]
    by_cases h2 : Am n
    · rw [if_neg (by simp [h2]), if_pos ⟨h, h2⟩]
    · rw [if_pos (by simp [h2]), if_neg fun k => h2 k.2]
  · rw [name_out K h, Option.bind_some, bi_eq, if_pos seq_nil, if_neg fun k => h k.1]
theorem mmade_ok (K : Nat) (c n : Int) : F.money_made K c n = some (if Am n then (c, n, 0) else (0, 0, 4)) := by
  unfold F.money_made
  rw [within_ok, Option.bind_some, bi_eq]
  by_cases h : Am n
  · rw [if_neg (by simp [h]), if_pos h]
  · rw [if_pos (by simp [h]), if_neg h]
namespace L
end L
end Go.Proofs.YtfeifhlnidkbbaaGreatDoor.Wide

namespace Go.Proofs.YtfeifhlnidkbbaaGreatDoor.Wide
open Go Go.RowKit Go.Proofs.YtfeifhlnidkbbaaGreatDoor.Vm
theorem rcur_ok (K : Nat) (c : Int) : F.ref05_Cur K c = some (decide (Cu c)) := by
  unfold F.ref05_Cur
  rw [bi_eq]
  by_cases h : c ≥ 0
  · rw [if_pos (by simpa using h)]
    congr 1
    apply decide_eq_decide.2
    unfold Cu
    omega
  · rw [if_neg (by simpa using h)]
    have : ¬ Cu c := by unfold Cu; omega
    simp [this]
theorem ramount_ok (K : Nat) (n : Int) : F.ref05_Amount K n = some (decide (Am n)) := within_ok K n
theorem rform_ok (K : Nat) (c n : Int) : F.ref05_Form K c n = some (decide (Cu c ∧ Am n)) := by
  unfold F.ref05_Form
  rw [rcur_ok, Option.bind_some, bi_eq]
  by_cases h : Cu c
  · rw [if_pos (by simpa using h), ramount_ok, Option.bind_some]
    simp [h]
  · rw [if_neg (by simpa using h)]
    simp [h]
namespace L
end L
end Go.Proofs.YtfeifhlnidkbbaaGreatDoor.Wide

namespace Go.Proofs.YtfeifhlnidkbbaaGreatDoor.Wide
open Go Go.RowKit Go.Proofs.YtfeifhlnidkbbaaGreatDoor.Vm
def fgs (c : Int) : Int := if c = 2 then 0 else if c = 3 then 3 else 2
theorem fgs_bd (c : Int) : 0 ≤ fgs c ∧ fgs c ≤ 3 := by unfold fgs; split <;> (try split) <;> omega
theorem figures_ok (K : Nat) (c : Int) : F.money_figures K c = some (fgs c) := by
  unfold F.money_figures fgs
  simp only [bi_eq]
  by_cases h : c = 2
  · rw [if_pos (by simpa using h), if_pos h]
  · rw [if_neg (by simpa using h), if_neg h]
    by_cases k : c = 3
    · rw [if_pos (by simpa using k), if_pos k]
    · rw [if_neg (by simpa using k), if_neg k]
theorem rdigits_ok (K : Nat) {c : Int} (h : Cu c) : F.ref05_Digits K c = some (fgs c) := by
  unfold Cu at h
  obtain rfl | rfl | rfl | rfl : c = 0 ∨ c = 1 ∨ c = 2 ∨ c = 3 := by omega
  all_goals (unfold F.ref05_Digits; decide +kernel)
def mun (a0 a1 a2 c m : Int) : Int := sgB (decide (a0 < 0)) (scaledS (decide (a0 < 0)) (siz a0 a1) a2 (fgs c) m)
theorem scaled_nonneg {b : Bool} {S a s m : Int} (h : 0 ≤ S) : 0 ≤ scaledS b S a s m ∧ scaledS b S a s m ≤ S * p10z (s - a) ∨ 0 ≤ scaledS b S a s m ∧ scaledS b S a s m ≤ S := by
  unfold scaledS
  split
  · exact .inl (by rw [roundS_one]; exact ⟨Int.mul_nonneg h (Int.le_of_lt (p10z_pos _)), Int.le_refl _⟩)
  · exact .inr (roundS_nonneg h (p10z_pos _))
theorem mof_ok {K : Nat} (hK : 400 ≤ K) {a0 a1 a2 c m : Int} (ia : I64 a0) (la : Word a1) (hc : Cu c) (h0 : 0 ≤ m) (h6 : m ≤ 6) :
    F.money_Of K a0 a1 a2 c m = some (if Fm a0 a1 a2 then (if Am (mun a0 a1 a2 c m) then (c, mun a0 a1 a2 c m, 0) else (0, 0, 4)) else (0, 0, 3)) := by
  obtain ⟨s, e1, e2, _⟩ := name_in K hc
  have fb := fgs_bd c
  unfold F.money_Of
  simp only [bi_eq]
  rw [e1, Option.bind_some, if_neg (by rw [e2]; decide), if_neg (by simp <;> omega), if_neg (by simp <;> omega), figures_ok, Option.bind_some, drescale_ok hK ia la, if_pos (show Wy (fgs c) m by unfold Wy; omega), Option.bind_some]
  by_cases f : Fm a0 a1 a2
  · rw [if_pos f, if_pos f]
    have R0 : 0 ≤ scaledS (decide (a0 < 0)) (siz a0 a1) a2 (fgs c) m := by rcases scaled_nonneg (b := decide (a0 < 0)) (a := a2) (s := fgs c) (m := m) (siz_bd ia la).1 with h | h <;> exact h.1
    rw [togD_pack R0]
    have ev : sgB (decide (a0 < 0)) (scaledS (decide (a0 < 0)) (siz a0 a1) a2 (fgs c) m) = mun a0 a1 a2 c m := rfl
    rw [ev]
    generalize mun a0 a1 a2 c m = v
    unfold pack
    by_cases b : -170141183460469231731687303715884105728 < v ∧ v < 170141183460469231731687303715884105728
    · rw [if_pos b]
      simp only
      obtain ⟨p1, p2, p3, p4⟩ := packed (sc := 0) b.1 b.2 (by decide) (by decide)
      rw [if_neg (by decide), dint_ok hK p1 p2, if_pos p3]
      have q : siz (v / 18446744073709551616) (v % 18446744073709551616) / p10z 0 = siz (v / 18446744073709551616) (v % 18446744073709551616) := by rw [p10z_zero, Int.ediv_one]
      have q2 : sgB (decide (v / 18446744073709551616 < 0)) (siz (v / 18446744073709551616) (v % 18446744073709551616)) = v := by
        have := sgB_siz (v / 18446744073709551616) (v % 18446744073709551616) 1
        rw [Int.mul_one, Int.mul_one, p4] at this
        exact this
      rw [q, q2]
      by_cases i : I64 v
      · rw [if_pos ⟨by rw [p10z_zero, Int.emod_one], i⟩, Option.bind_some]
        simp only
        rw [if_neg (by decide), mmade_ok, Option.bind_some]
      · have : ¬ Am v := fun h => i (by unfold Am at h; unfold I64; omega)
        rw [if_neg fun h => i h.2, Option.bind_some, if_neg this]
        rfl
    · have : ¬ Am v := fun h => b (by unfold Am at h; omega)
      rw [if_neg b, if_neg this]
      rfl
  · rw [if_neg f, if_neg f]
    rfl
theorem round_scaled {b : Bool} {S a s m : Int} (ha : 0 ≤ a) (hs : 0 ≤ s) : roundS b (S * p10z s) (p10z a) m = scaledS b S a s m := by
  unfold scaledS
  by_cases h : a ≤ s
  · rw [if_pos h, roundS_one, show s = (s - a) + a by omega, p10z_add (by omega) ha, ← Int.mul_assoc, roundS_exact (p10z_pos a)]
    congr 2
    omega
  · rw [if_neg h, show p10z a = p10z (a - s) * p10z s by rw [← p10z_add (by omega) hs]; congr 1; omega, roundS_scale (p10z_pos _) (p10z_pos _)]
theorem docOf_ok {K : Nat} (hK : 40000 ≤ K) {a0 a1 a2 c m : Int} (ia : I64 a0) (la : Word a1) (hc : Cu c) (h0 : 0 ≤ m) (h6 : m ≤ 6) :
    F.ref05_DocOf K a0 a1 a2 c m = some (if Fm a0 a1 a2 then (if Am (mun a0 a1 a2 c m) then (c, mun a0 a1 a2 c m, 0) else (0, 0, 4)) else (0, 0, 3)) := by
  have fb := fgs_bd c
  have sb := siz_bd ia la
  unfold F.ref05_DocOf
  simp only [bi_eq]
  rw [rcur_ok, Option.bind_some, if_neg (by simp [hc]), if_neg (by simp <;> omega), if_neg (by simp <;> omega), form_ok, Option.bind_some]
  by_cases f : Fm a0 a1 a2
  · have fa := f
    unfold Fm at fa
    have t1 := p10z_bd fb.1 (by omega)
    have t1' : p10z (fgs c) ≤ 1000 := by
      have : fgs c = 0 ∨ fgs c = 3 ∨ fgs c = 2 := by unfold fgs; split <;> (try split) <;> simp
      rcases this with h | h | h <;> rw [h] <;> decide
    have t2 := p10z_bd fa.1 (show a2 ≤ 36 by omega)
    have S0 := mul_le sb.1 sb.2 (show 0 ≤ p10z (fgs c) by omega) t1'
    have A1 : siz a0 a1 * p10z (fgs c) < TOP := by unfold TOP; omega
    rw [if_neg (by simp [f]), coef_ok (by omega) ia la, Option.bind_some, rdigits_ok K hc, Option.bind_some, rten_ok (by omega) fb.1 (by omega), Option.bind_some]
    simp only
    rw [product_ok (by omega) sb.1 (by unfold TOP; omega) (by omega) (by unfold TOP; omega), Option.bind_some, rten_ok (by omega) fa.1 (by omega), Option.bind_some]
    simp only
    have nb : (!(decide (a0 < 0)) == false) = decide (a0 < 0) := by cases decide (a0 < 0) <;> rfl
    rw [nb, rrounded_ok hK S0.1 A1 (by omega) (by unfold TOP; omega) h0 h6, Option.bind_some]
    simp only
    have rb := roundS_nonneg (m := decide (a0 < 0)) (mode := m) S0.1 (show 0 < p10z a2 by omega)
    rw [small_ok (by omega) rb.1 (by omega), Option.bind_some, round_scaled fa.1 fb.1]
    have ev : sgB (decide (a0 < 0)) (scaledS (decide (a0 < 0)) (siz a0 a1) a2 (fgs c) m) = mun a0 a1 a2 c m := rfl
    rw [ev, if_pos f]
    generalize mun a0 a1 a2 c m = v
    by_cases i : I64 v
    · rw [if_pos i, if_neg (by simp), ramount_ok, Option.bind_some]
      by_cases h : Am v
      · rw [if_neg (by simp [h]), if_pos h]
      · rw [if_pos (by simp [h]), if_neg h]
    · have : ¬ Am v := fun h => i (by unfold Am at h; unfold I64; omega)
      rw [if_neg i, if_pos (by decide), if_neg this]
  · rw [if_pos (by simp [f]), if_neg f]
theorem mto_ok (K : Nat) (c n : Int) : F.money_To K c n = some (if Cu c ∧ Am n then (n / 18446744073709551616, n % 18446744073709551616, fgs c, 0) else (0, 0, 0, 3)) := by
  unfold F.money_To
  rw [mcheck_ok, Option.bind_some, bi_eq]
  by_cases h : Cu c ∧ Am n
  · have fb := fgs_bd c
    have a := h.2
    unfold Am at a
    rw [if_pos h, if_neg (by decide), figures_ok, Option.bind_some, decof_ok K (show I64 n by unfold I64; omega), if_pos ⟨fb.1, by omega⟩, pack_in (by omega) (by omega), Option.bind_some, if_pos h]
  · rw [if_neg h, if_pos (by decide), if_neg h]
theorem docTo_ok {K : Nat} (hK : 40000 ≤ K) (c n : Int) : F.ref05_DocTo K c n = some (if Cu c ∧ Am n then (n / 18446744073709551616, n % 18446744073709551616, fgs c, 0) else (0, 0, 0, 3)) := by
  unfold F.ref05_DocTo
  rw [rform_ok, Option.bind_some, bi_eq]
  by_cases h : Cu c ∧ Am n
  · have a := h.2
    unfold Am at a
    have r0 : 0 ≤ (if n < 0 then -n else n) := by split <;> omega
    have r1 : (if n < 0 then -n else n) < TOP := by unfold TOP; split <;> omega
    have r2 : sgB (decide (n < 0)) (if n < 0 then -n else n) = n := by unfold sgB; by_cases d : n < 0 <;> simp [d]
    rw [if_neg (by simp [h]), made_ok (by omega) (show I64 n by unfold I64; omega), Option.bind_some, rdigits_ok K h.1, Option.bind_some, rdec_ok hK r0 r1, togD_pack r0, r2, pack_in (by omega) (by omega), Option.bind_some, if_pos h]
  · rw [if_pos (by simp [h]), if_neg h]
theorem mback {K : Nat} (hK : 400 ≤ K) {c n k : Int} (hc : Cu c) (hn : Am n) (h0 : 0 ≤ k) (h6 : k ≤ 6) : F.money_Of K (n / 18446744073709551616) (n % 18446744073709551616) (fgs c) c k = some (c, n, 0) := by
  have fb := fgs_bd c
  have a := hn
  unfold Am at a
  obtain ⟨p1, p2, p3, p4⟩ := packed (c := n) (sc := fgs c) (by omega) (by omega) fb.1 (by omega)
  have e : mun (n / 18446744073709551616) (n % 18446744073709551616) (fgs c) c k = n := by
    unfold mun scaledS
    rw [if_pos (Int.le_refl _), Int.sub_self, p10z_zero, roundS_one, sgB_siz, p4, Int.mul_one]
  rw [mof_ok hK p1 p2 hc h0 h6, if_pos p3, e, if_pos hn]
namespace L
end L
end Go.Proofs.YtfeifhlnidkbbaaGreatDoor.Wide

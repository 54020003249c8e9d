/- The reference's numbers: differences. Conditions: digits are digits, lists are short. -/
import Derived.Test.YtppdgohcgklinaaPRb
set_option linter.unusedVariables false
set_option linter.unusedSimpArgs false
namespace Go.Proofs.Ytppdgohcgklinaa.Wide
open Go Go.RowKit Go.Proofs.Ytppdgohcgklinaa.Vm
theorem vr_lt : ∀ {l : List Int}, Dg l → vr l < B32 ^ l.length
  | [], _ => by simp [vr]
  | x :: l, h => by
    obtain ⟨hx, hl⟩ := dg_cons h
    have ih := vr_lt hl
    simp only [vr, List.length_cons, Int.pow_succ]
    generalize B32 ^ l.length = P at *
    unfold B32 at *
    omega
theorem nth_set {l : List Int} {n : Nat} (x : Int) (h : n < l.length) : nth 0 (l.set n x) n = x := by
  induction l generalizing n with
  | nil => simp at h
  | cons y l ih => cases n with
    | zero => rfl
    | succ n => simp only [List.set_cons_succ, nth]; exact ih (by simpa using h)
theorem take_set {l : List Int} {n : Nat} (x : Int) : (l.set n x).take n = l.take n := by
  rw [List.take_set, List.set_eq_of_length_le (by rw [List.length_take]; omega)]
theorem dg_set {l : List Int} {n : Nat} {x : Int} (h : Dg l) (h0 : 0 ≤ x) (h1 : x < B32) : Dg (l.set n x) := by
  intro y hy
  rcases List.mem_or_eq_of_mem_set hy with hy | rfl
  · exact h y hy
  · exact ⟨h0, h1⟩
theorem dg_zeros (n : Nat) : Dg (List.replicate n 0) := by
  intro x hx
  obtain rfl := List.eq_of_mem_replicate hx
  unfold B32; omega
theorem dn (t P : Int) : t % B32 * P - (1 - t / B32) * (P * B32) = t * P - B32 * P := by
  have e := dm t P
  rw [Int.sub_mul, Int.one_mul, Int.mul_comm B32 P]
  omega
theorem minus_loop {K : Nat} {l0 l1 : List Int} (d0 : Dg l0) (d1 : Dg l1) (hM : l0.length < 900000) : ∀ (k i : Nat) (c : Int) (l5 : List Int), l5.length = l0.length → Dg l5 → 0 ≤ c → c ≤ 1 → vr (l5.take i) - c * B32 ^ i = vr (l0.take i) - vr (l1.take i) → i ≤ l0.length → l0.length - i < k →
    ∃ r c', F.ref01_Minus_l4 K k l0 l1 l5 c l0.length i = some r ∧ Dg r ∧ r.length = l0.length ∧ 0 ≤ c' ∧ vr r - c' * B32 ^ l0.length = vr l0 - vr (l1.take l0.length)
  | 0, i, c, l5, _, _, _, _, _, _, h => by omega
  | k + 1, i, c, l5, h5, d5, c0, c1, hv, hi, hk => by
    rw [F.ref01_Minus_l4]
    simp only [Int.toNat_natCast]
    by_cases g : i < l0.length
    · have g' : (i : Int) < (l0.length : Int) := by omega
      have g5 : (i : Int) < (l5.length : Int) := by omega
      have b0 := nth_bd d0 i
      have b1 := nth_bd d1 i
      have w1 : IntKind.u64.wrap (nth 0 l0 i + 4294967296) = nth 0 l0 i + 4294967296 := uw (by omega) (by unfold B32 at *; omega)
      have w2 : IntKind.u64.wrap (nth 0 l0 i + 4294967296 - c) = nth 0 l0 i + 4294967296 - c := uw (by omega) (by unfold B32 at *; omega)
      have w3 : IntKind.u64.wrap (nth 0 l0 i + 4294967296 - c - nth 0 l1 i) = nth 0 l0 i + 4294967296 - c - nth 0 l1 i := uw (by unfold B32 at *; omega) (by unfold B32 at *; omega)
      have wi1 : IntKind.i64.wrap ((i : Int) + 1) = ((i + 1 : Nat) : Int) := by rw [iw (by omega) (by omega)]; omega
      have T : ∀ t : Int, 0 ≤ t → t < 8589934592 → t.tmod 4294967296 = t % B32 ∧ IntKind.u64.wrap (1 - IntKind.u64.wrap (t.tdiv 4294967296)) = 1 - t / B32 := fun t h0 h1 => by
        rw [tm _ h0, td _ h0, uw (x := t / 4294967296) (by omega) (by omega), uw (by omega) (by omega)]; exact ⟨rfl, rfl⟩
      have go : ∀ y : Int, y = nth 0 l1 i → ∃ r c', F.ref01_Minus_l4 K k l0 l1 (l5.set i ((nth 0 l0 i + 4294967296 - c - y) % B32)) (1 - (nth 0 l0 i + 4294967296 - c - y) / B32) l0.length ((i + 1 : Nat) : Int) = some r ∧ Dg r ∧ r.length = l0.length ∧ 0 ≤ c' ∧ vr r - c' * B32 ^ l0.length = vr l0 - vr (l1.take l0.length) := fun y hy => by
        subst hy
        refine minus_loop d0 d1 hM k (i + 1) _ _ (by simp [h5]) (dg_set d5 (by unfold B32; omega) (by unfold B32; omega)) (by unfold B32 at *; omega) (by unfold B32 at *; omega) ?_ (by omega) (by omega)
        rw [vr_take', vr_take', vr_take', take_set, nth_set _ (by omega), Int.pow_succ]
        have e := dn (nth 0 l0 i + 4294967296 - c - nth 0 l1 i) (B32 ^ i)
        have e2 : (nth 0 l0 i + 4294967296 - c - nth 0 l1 i) * B32 ^ i = nth 0 l0 i * B32 ^ i + 4294967296 * B32 ^ i - c * B32 ^ i - nth 0 l1 i * B32 ^ i := by rw [Int.sub_mul, Int.sub_mul, Int.add_mul]
        rw [e2, show B32 * B32 ^ i = 4294967296 * B32 ^ i from rfl] at e
        omega
      by_cases b : i < l1.length
      · have b' : (i : Int) < (l1.length : Int) := by omega
        obtain ⟨t1, t2⟩ := T (nth 0 l0 i + 4294967296 - c - nth 0 l1 i) (by unfold B32 at *; omega) (by unfold B32 at *; omega)
        have := go _ rfl
        simpa [g', g5, b', w1, w2, w3, wi1, t1, t2] using this
      · have b' : ¬ (i : Int) < (l1.length : Int) := by omega
        have z := nth_out (l := l1) (n := i) (by omega)
        obtain ⟨t1, t2⟩ := T (nth 0 l0 i + 4294967296 - c) (by unfold B32 at *; omega) (by unfold B32 at *; omega)
        have := go 0 z.symm
        rw [Int.sub_zero] at this
        simpa [g', g5, b', w1, w2, wi1, t1, t2] using this
    · obtain rfl : i = l0.length := by omega
      refine ⟨l5, c, by simp, d5, h5, c0, ?_⟩
      rw [List.take_of_length_le (by omega), List.take_of_length_le (l := l0) (by omega)] at hv
      exact hv
theorem rl_len_mono {a b : Int} (h : a ≤ b) : (rl a).length ≤ (rl b).length := by
  by_cases h0 : 0 < a
  · rw [rl_pos h0, rl_pos (n := b) (by omega), List.length_cons, List.length_cons]
    have := rl_len_mono (a := a / B32) (b := b / B32) (by unfold B32; omega)
    omega
  · rw [rl_zero (by omega)]; simp
termination_by a.toNat
decreasing_by unfold B32; omega
theorem minus_ok {K : Nat} (hK : 2000 ≤ K) {a b : Int} (b0 : 0 ≤ b) (hab : b ≤ a) (ha : (rl a).length ≤ 1000) : F.ref01_Minus K (rl a) (rl b) = some (rl (a - b)) := by
  have hlb := rl_len_mono hab
  obtain ⟨r, c', h1, h2, h3, h4, h5⟩ := minus_loop (K := K) (dg_rl a) (dg_rl b) (by omega) K 0 0 (List.replicate (rl a).length 0) (by simp) (dg_zeros _) (by decide) (by decide) (by simp [vr]) (by omega) (by omega)
  have h1' : F.ref01_Minus_l4 K K (rl a) (rl b) (List.replicate (rl a).length 0) 0 (rl a).length 0 = some r := h1
  rw [List.take_of_length_le hlb, vr_rl (by omega), vr_rl b0] at h5
  have hlt := vr_lt h2
  rw [h3] at hlt
  have hc : c' = 0 := by
    have hp : (0 : Int) < B32 ^ (rl a).length := Int.pow_pos (by decide)
    rcases Int.lt_or_eq_of_le h4 with h | h
    · have : 1 * B32 ^ (rl a).length ≤ c' * B32 ^ (rl a).length := Int.mul_le_mul_of_nonneg_right (by omega) (by omega)
      omega
    · exact h.symm
  rw [hc] at h5
  have L : ((rl a).length : Int) ≤ 8796093022208 := by omega
  unfold F.ref01_Minus
  rw [if_pos (by simp; omega), Int.toNat_natCast, h1', Option.bind_some, norm_ok h2 (by omega) (by omega), show vr r = a - b by omega, Option.bind_some]
end Go.Proofs.Ytppdgohcgklinaa.Wide

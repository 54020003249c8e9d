/- The reference's numbers: sums. Conditions: digits are digits, lists are short. -/
import Derived.Test.YtppdgohcgklinaaPRa
set_option linter.unusedVariables false
set_option linter.unusedSimpArgs false
namespace Go.Proofs.Ytppdgohcgklinaa.Wide
open Go Go.RowKit Go.Proofs.Ytppdgohcgklinaa.Vm
theorem nth_out {l : List Int} {n : Nat} (h : l.length ≤ n) : nth 0 l n = 0 := by
  induction l generalizing n with
  | nil => rfl
  | cons x l ih => cases n with
    | zero => simp at h
    | succ n => exact ih (by simpa using h)
theorem nth_bd {l : List Int} (hd : Dg l) (n : Nat) : 0 ≤ nth 0 l n ∧ nth 0 l n < B32 := by
  by_cases h : n < l.length
  · rw [nth_eq_get h]; exact hd _ (List.getElem_mem h)
  · rw [nth_out (by omega)]; unfold B32; omega
theorem vr_take' (l : List Int) (n : Nat) : vr (l.take (n + 1)) = vr (l.take n) + nth 0 l n * B32 ^ n := by
  by_cases h : n < l.length
  · exact vr_take l n h
  · rw [nth_out (by omega), List.take_of_length_le (by omega), List.take_of_length_le (by omega)]; simp
theorem vr_append : ∀ (l : List Int) (x : Int), vr (l ++ [x]) = vr l + x * B32 ^ l.length
  | [], x => by simp [vr]
  | y :: l, x => by
    have ih := vr_append l x
    simp only [List.cons_append, vr, ih, List.length_cons, Int.pow_succ]
    rw [Int.mul_add, Int.mul_left_comm, Int.mul_comm (B32 ^ l.length) B32]
    omega
theorem dg_append {l : List Int} {x : Int} (h : Dg l) (h0 : 0 ≤ x) (h1 : x < B32) : Dg (l ++ [x]) := by
  intro y hy
  rcases List.mem_append.1 hy with hy | hy
  · exact h y hy
  · simp at hy; subst hy; exact ⟨h0, h1⟩
theorem dm (t P : Int) : t % B32 * P + t / B32 * (P * B32) = t * P := by
  have e := Int.emod_add_mul_ediv t B32
  have : t * P = (t % B32 + B32 * (t / B32)) * P := by rw [e]
  rw [this, Int.add_mul, Int.mul_comm B32, Int.mul_assoc (t / B32) B32 P, Int.mul_comm P B32]
theorem plus_step {K k : Nat} {l0 l1 l5 : List Int} {c : Int} {i : Nat} (d0 : Dg l0) (d1 : Dg l1) (c0 : 0 ≤ c) (c1 : c ≤ 1) (hi : i < 1000000) (h5 : l5.length = i) :
    F.ref01_Plus_l4 K (k + 1) l0 l1 l5 c i = if (i < l0.length ∨ i < l1.length) ∨ 0 < c then F.ref01_Plus_l4 K k l0 l1 (l5 ++ [(c + nth 0 l0 i + nth 0 l1 i) % B32]) ((c + nth 0 l0 i + nth 0 l1 i) / B32) ((i + 1 : Nat) : Int) else some l5 := by
  have b0 := nth_bd d0 i
  have b1 := nth_bd d1 i
  have w1 : IntKind.u64.wrap (c + nth 0 l0 i) = c + nth 0 l0 i := uw (by omega) (by unfold B32 at *; omega)
  have w2 : IntKind.u64.wrap (c + nth 0 l0 i + nth 0 l1 i) = c + nth 0 l0 i + nth 0 l1 i := uw (by omega) (by unfold B32 at *; omega)
  have w3 : IntKind.u64.wrap (c + nth 0 l1 i) = c + nth 0 l1 i := uw (by omega) (by unfold B32 at *; omega)
  have wi1 : IntKind.i64.wrap ((i : Int) + 1) = (i : Int) + 1 := iw (by omega) (by omega)
  have T : ∀ t : Int, 0 ≤ t → t < 18446744073709551616 → t.tmod 4294967296 = t % B32 ∧ IntKind.u64.wrap (t.tdiv 4294967296) = t / B32 := fun t h0 h1 => by
    rw [tm _ h0, td _ h0, uw (by omega) (by omega)]; exact ⟨rfl, rfl⟩
  have L : l5.length + 1 ≤ 8796093022208 := by omega
  rw [F.ref01_Plus_l4]
  simp only [Int.toNat_natCast]
  rw [show ((i + 1 : Nat) : Int) = (i : Int) + 1 by omega]
  by_cases a : i < l0.length
  · have a' : (i : Int) < (l0.length : Int) := by omega
    by_cases b : i < l1.length
    · have b' : (i : Int) < (l1.length : Int) := by omega
      obtain ⟨t1, t2⟩ := T (c + nth 0 l0 i + nth 0 l1 i) (by omega) (by unfold B32 at *; omega)
      simp [a, a', b, b', L, w1, w2, wi1, t1, t2]
    · have b' : ¬ (i : Int) < (l1.length : Int) := by omega
      have z := nth_out (l := l1) (n := i) (by omega)
      obtain ⟨t1, t2⟩ := T (c + nth 0 l0 i) (by omega) (by unfold B32 at *; omega)
      simp [a, a', b, b', L, w1, wi1, t1, t2, z]
  · have a' : ¬ (i : Int) < (l0.length : Int) := by omega
    have z0 := nth_out (l := l0) (n := i) (by omega)
    by_cases b : i < l1.length
    · have b' : (i : Int) < (l1.length : Int) := by omega
      obtain ⟨t1, t2⟩ := T (c + nth 0 l1 i) (by omega) (by unfold B32 at *; omega)
      simp [a, a', b, b', L, w3, wi1, t1, t2, z0]
    · have b' : ¬ (i : Int) < (l1.length : Int) := by omega
      have z1 := nth_out (l := l1) (n := i) (by omega)
      obtain ⟨t1, t2⟩ := T c (by omega) (by omega)
      by_cases g : 0 < c
      · simp [a, a', b, b', L, g, wi1, t1, t2, z0, z1]
      · simp [a, a', b, b', g]
theorem plus_loop {K : Nat} {l0 l1 : List Int} (d0 : Dg l0) (d1 : Dg l1) {M : Nat} (m0 : l0.length ≤ M) (m1 : l1.length ≤ M) (hM : M < 900000) : ∀ (k i : Nat) (c : Int) (l5 : List Int), l5.length = i → Dg l5 → 0 ≤ c → c ≤ 1 → vr l5 + c * B32 ^ i = vr (l0.take i) + vr (l1.take i) → i ≤ M + 1 → (i = M + 1 → c = 0) → M + 1 - i < k →
    ∃ r, F.ref01_Plus_l4 K k l0 l1 l5 c i = some r ∧ Dg r ∧ r.length ≤ M + 1 ∧ vr r = vr l0 + vr l1
  | 0, i, c, l5, _, _, _, _, _, _, _, h => by omega
  | k + 1, i, c, l5, h5, d5, c0, c1, hv, hi, hc, hk => by
    rw [plus_step d0 d1 c0 c1 (by omega) h5]
    by_cases g : (i < l0.length ∨ i < l1.length) ∨ 0 < c
    · rw [if_pos g]
      have b0 := nth_bd d0 i
      have b1 := nth_bd d1 i
      have hiM : i ≤ M := by
        rcases g with (g | g) | g
        · omega
        · omega
        · have : ¬ i = M + 1 := fun h => by have := hc h; omega
          omega
      refine plus_loop d0 d1 m0 m1 hM k (i + 1) _ _ (by simp [h5]) (dg_append d5 (by unfold B32; omega) (by unfold B32; omega)) (by unfold B32 at *; omega) (by unfold B32 at *; omega) ?_ (by omega) ?_ (by omega)
      · rw [vr_append, vr_take', vr_take', h5, Int.pow_succ]
        have e := dm (c + nth 0 l0 i + nth 0 l1 i) (B32 ^ i)
        rw [Int.add_mul, Int.add_mul] at e
        omega
      · intro h
        have hi : i = M := by omega
        rw [nth_out (l := l0) (by omega), nth_out (l := l1) (by omega)]
        unfold B32; omega
    · rw [if_neg g]
      have hc0 : c = 0 := by omega
      refine ⟨l5, rfl, d5, by omega, ?_⟩
      rw [hc0, List.take_of_length_le (by omega), List.take_of_length_le (by omega)] at hv
      omega
theorem rl_len_le {n : Int} {k : Nat} (h : n < B32 ^ k) : (rl n).length ≤ k := by
  by_cases h0 : 0 < n
  · cases k with
    | zero => simp at h; omega
    | succ k =>
      rw [rl_pos h0, List.length_cons]
      have : n / B32 < B32 ^ k := (Int.ediv_lt_iff_lt_mul (by decide)).2 (by rw [← Int.pow_succ]; exact h)
      have := rl_len_le (n := n / B32) this
      omega
  · rw [rl_zero (by omega)]; simp
termination_by n.toNat
decreasing_by unfold B32; omega
/-- Sums of short numbers. -/
theorem plus_ok {K : Nat} (hK : 2000 ≤ K) {a b : Int} (a0 : 0 ≤ a) (b0 : 0 ≤ b) (ha : (rl a).length ≤ 1000) (hb : (rl b).length ≤ 1000) : F.ref01_Plus K (rl a) (rl b) = some (rl (a + b)) := by
  obtain ⟨r, h1, h2, h3, h4⟩ := plus_loop (K := K) (dg_rl a) (dg_rl b) ha hb (by omega) K 0 0 [] rfl (by intro x hx; simp at hx) (by decide) (by decide) (by simp [vr]) (by omega) (by omega) (by omega)
  have h1' : F.ref01_Plus_l4 K K (rl a) (rl b) [] 0 0 = some r := h1
  rw [vr_rl a0, vr_rl b0] at h4
  unfold F.ref01_Plus
  rw [h1', Option.bind_some, norm_ok h2 (by omega) (by omega), h4, Option.bind_some]
end Go.Proofs.Ytppdgohcgklinaa.Wide

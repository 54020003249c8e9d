/- The reference's Write: the same text. Conditions: none here. -/
import Derived.Test.YtfeifhlnidkbbaaGreatDoorPTb
import Derived.Test.YtfeifhlnidkbbaaGreatDoorFG
set_option linter.unusedVariables false
set_option linter.unusedSimpArgs false
namespace Go.Proofs.YtfeifhlnidkbbaaGreatDoor.Wide
open Go Go.RowKit Go.Proofs.YtfeifhlnidkbbaaGreatDoor.Vm
def qd (N : Int) : Nat → List Int
  | 0 => []
  | n + 1 => qd N n ++ [48 + N / 10 ^ n % 10]
theorem qd_len (N : Int) : ∀ n : Nat, (qd N n).length = n
  | 0 => rfl
  | n + 1 => by rw [qd, List.length_append, qd_len N n]; rfl
theorem qd_get (N : Int) : ∀ (n i : Nat), i < n → nth 0 (qd N n) i = 48 + N / 10 ^ i % 10
  | n + 1, i, h => by
    rw [qd, nth_app, qd_len]
    by_cases c : i < n
    · rw [if_pos c, qd_get N n i c]
    · have : i = n := by omega
      subst this
      rw [if_neg (by omega), Nat.sub_self]
      rfl
theorem rwl_step {K k : Nat} (hK : 40000 ≤ K) {N sc x y : Int} {cb : Bool} {cl : List Int} {D n : Nat} (h0 : 0 ≤ N) (h1 : N < 340282366920938463463374607431768211456) (d : Dn N sc D) (hn : n < D) :
    F.ref02_Write_l4 K (k + 1) (rl (N / 10 ^ n)) (qd N n) x y sc cb cl = F.ref02_Write_l4 K k (rl (N / 10 ^ (n + 1))) (qd N (n + 1)) x y sc cb cl := by
  have more := (dn_more h0 d (by omega)).2 hn
  have m0 : 0 ≤ N / 10 ^ n := Int.ediv_nonneg h0 (Int.le_of_lt (p10_pos n))
  have m1 : N / 10 ^ n ≤ N := Int.ediv_le_self _ h0
  have hd := d.most
  have e0 := ediv_p10 N n
  have hq : qd N (n + 1) = qd N n ++ [48 + N / 10 ^ n % 10] := rfl
  have ql := qd_len N n
  generalize qd N (n + 1) = Q' at *
  generalize qd N n = Q at *
  generalize N / 10 ^ n = M at *
  have top : ∀ z : Int, z ≤ 340282366920938463463374607431768211456 → z < TOP := fun z hz => by unfold TOP; omega
  have w1 : F.ref01_Word K 10 = some (rl 10) := word_ok (by omega) ⟨by decide, by decide⟩
  have w2 : F.ref01_Quo K (rl M) (rl 10) = some (rl (M / 10), rl (M % 10)) := rquo_ok hK m0 (by decide) (by have := len_top2 (top M (by omega)); omega) (by have := len_top (top 10 (by decide)); omega)
  have w3 : F.ref01_Fits K (rl (M % 10)) = some (M % 10, true) := by
    rw [rfits_ok (by omega) (by omega) (top _ (by omega)), Int.emod_eq_of_lt (by omega) (by omega)]
    simp
    omega
  have q4 : IntKind.u8.wrap (IntKind.u64.wrap (48 + M % 10)) = 48 + M % 10 := by rw [uw (by omega) (by omega), wu8]; omega
  have cap : (decide (Q.length + 1 ≤ 8796093022208)) = true := by simp; omega
  rw [F.ref02_Write_l4]
  simp only [w1, w2, w3, Option.bind_some, q4, bi_eq, cap, if_true]
  rw [hq, ← e0]
  by_cases g : 0 < M
  · have : ((rl M).length : Int) > 0 := by
      have := (rl_len_zero (n := M) m0)
      omega
    rw [if_pos (by simpa using this)]
  · have : M = 0 := by omega
    subst this
    rw [if_neg (by rw [rl_zero (Int.le_refl 0)]; simp), if_pos (by simp; omega)]
theorem rwl_loop {K : Nat} (hK : 40000 ≤ K) {N sc x y : Int} {cb : Bool} {cl : List Int} {D : Nat} (h0 : 0 ≤ N) (h1 : N < 340282366920938463463374607431768211456) (d : Dn N sc D) : ∀ (k n : Nat), n ≤ D → D - n < k →
    F.ref02_Write_l4 K k (rl (N / 10 ^ n)) (qd N n) x y sc cb cl = some (qd N D, x, y, sc, cb, cl)
  | 0, n, _, h => by omega
  | k + 1, n, hn, hk => by
    by_cases e : n = D
    · subst e
      have z := d.zero
      have := d.sc1
      rw [F.ref02_Write_l4]
      simp only [bi_eq]
      rw [z, rl_zero (Int.le_refl 0), if_neg (by simp), if_neg (by simp [qd_len]; omega)]
    · rw [rwl_step hK h0 h1 d (by omega)]
      exact rwl_loop hK h0 h1 d k (n + 1) (by omega) (by omega)
theorem take_one {l : List Int} {i : Nat} (h : i < l.length) : List.take 1 (List.drop i l) = [nth 0 l i] := by
  rw [List.drop_eq_getElem_cons h, nth_eq, List.getD_eq_getElem?_getD, List.getElem?_eq_getElem h]
  rfl
theorem rws_loop {K : Nat} {N sc x y : Int} {D : Nat} (hD : D ≤ 39) : ∀ (k n : Nat) (pre : List Int), n ≤ D → n < k → pre.length + 2 * n ≤ 1000 →
    F.ref02_Write_l13 K k (qd N D) (strOf pre) ((n : Int) - 1) x y sc = some (strOf (pre ++ (rw_ N sc n).reverse))
  | 0, n, pre, _, h, _ => by omega
  | k + 1, 0, pre, _, _, _ => by
    rw [F.ref02_Write_l13]
    simp only [bi_eq]
    rw [if_neg (by simp)]
    simp [rw_]
  | k + 1, n + 1, pre, hn, hk, hp => by
    have e1 : (((n + 1 : Nat) : Int) - 1) = (n : Int) := by omega
    have e2 : IntKind.i64.wrap ((n : Int) + 1) = ((n + 1 : Nat) : Int) := by rw [iw (by omega) (by omega)]; omega
    have e3 : IntKind.i64.wrap ((n : Int) - 1) = (n : Int) - 1 := iw (by omega) (by omega)
    rw [F.ref02_Write_l13]
    rw [e1]
    simp only [e2, e3, Int.toNat_natCast]
    rw [show n + 1 - n = 1 by omega, take_one (by rw [qd_len]; omega), qd_get N D n (by omega), show (⟨#[46]⟩ : ByteArray) = strOf [46] from rfl]
    simp only [strOf_app, strOf_size, bi_eq]
    rw [if_pos (by simp), if_pos (by simp [qd_len]; omega), if_neg (by simp; omega)]
    have hr : rw_ N sc (n + 1) = rw_ N sc n ++ (if (n : Int) = sc ∧ 0 < n then [46] else []) ++ [48 + N / 10 ^ n % 10] := rfl
    by_cases c : (n : Int) = sc
    · rw [if_pos (by simpa using c)]
      by_cases c2 : 0 < n
      · rw [if_pos (by simp; omega), if_neg (by simp; omega), rws_loop hD k n _ (by omega) (by omega) (by simp; omega), hr, if_pos ⟨c, c2⟩]
        simp
      · rw [if_neg (by simp; omega), rws_loop hD k n _ (by omega) (by omega) (by simp; omega), hr, if_neg (fun h => c2 h.2)]
        simp
    · rw [if_neg (by simpa using c), rws_loop hD k n _ (by omega) (by omega) (by simp; omega), hr, if_neg (fun h => c h.1)]
      simp
theorem rwrite2_ok {K : Nat} (hK : 40000 ≤ K) {a0 a1 a2 : Int} {D : Nat} (ia : I64 a0) (la : Word a1) (f : Fm a0 a1 a2) (d : Dn (siz a0 a1) a2 D) : F.ref02_Write K a0 a1 a2 = some (strOf (txtD (cf a0 a1) a2 D)) := by
  have fa := f
  unfold Fm at fa
  have sb := siz_bd ia la
  have hd := d.most
  unfold F.ref02_Write
  rw [coef_ok (by omega) ia la, Option.bind_some]
  simp only
  have w := rwl_loop (K := K) (x := a0) (y := a1) (cb := decide (a0 < 0)) (cl := rl (siz a0 a1)) hK sb.1 (by omega) d K 0 (by omega) (by omega)
  simp only [Int.pow_zero, Int.ediv_one] at w
  have w : F.ref02_Write_l4 K K (rl (siz a0 a1)) [] a0 a1 a2 (decide (a0 < 0)) (rl (siz a0 a1)) = _ := w
  rw [w, Option.bind_some]
  simp only
  have sv : sgB (decide (a0 < 0)) (siz a0 a1) = cf a0 a1 := by have := sgB_siz a0 a1 1; rwa [Int.mul_one, Int.mul_one] at this
  rw [rsign_ok K sb.1, Option.bind_some, sv, qd_len, iw (by omega) (by omega)]
  unfold txtD sgt
  rw [← siz_abs a0 a1 la, bi_eq]
  by_cases h : a0 < 0
  · have hc := (sgt_neg la).1 h
    rw [if_pos (by unfold cmp3; rw [if_pos hc]; decide), if_pos hc, show (⟨#[45]⟩ : ByteArray) = strOf [45] from rfl, rws_loop hd K D [45] (by omega) (by omega) (by simp; omega), Option.bind_some]
  · have hc := fun k => h ((sgt_neg (a0 := a0) la).2 k)
    rw [if_neg (by unfold cmp3; rw [if_neg hc]; split <;> decide), if_neg hc, show (⟨#[]⟩ : ByteArray) = strOf [] from rfl, rws_loop hd K D [] (by omega) (by omega) (by simp; omega), Option.bind_some]
end Go.Proofs.YtfeifhlnidkbbaaGreatDoor.Wide

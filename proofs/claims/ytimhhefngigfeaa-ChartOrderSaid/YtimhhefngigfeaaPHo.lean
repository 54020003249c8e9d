/- Chart: the law ChartOrder. Conditions: none here. -/
import Derived.Test.YtimhhefngigfeaaPHs
import Derived.Test.YtimhhefngigfeaaFS
set_option linter.unusedVariables false
set_option linter.unusedSimpArgs false
namespace Go.Proofs.Ytimhhefngigfeaa.Wide
open Go Go.RowKit Go.Proofs.Ytimhhefngigfeaa.Vm
def sF (f : List Int → Int) : List (List Int) → Int
  | [] => 0
  | x :: q => f x + sF f q
theorem sF_set (f : List Int → Int) (y : List Int) : ∀ (q : List (List Int)) (i : Nat) (h : i < q.length), sF f (q.set i y) = sF f q - f q[i] + f y
  | [], i, h => by simp at h
  | x :: q, 0, h => by simp only [List.set_cons_zero, sF, List.getElem_cons_zero]; omega
  | x :: q, i + 1, h => by
    have hi : i < q.length := by simpa using h
    have := sF_set f y q i hi
    simp only [List.set_cons_succ, sF, List.getElem_cons_succ, this]; omega
theorem sF_all (p : List Int → Bool) : ∀ (q : List (List Int)), 0 ≤ sF (fun x => if p x = true then 0 else 1) q ∧ (q.all p = true ↔ sF (fun x => if p x = true then 0 else 1) q = 0)
  | [] => by simp [sF]
  | x :: q => by
    obtain ⟨h1, h2⟩ := sF_all p q
    simp only [sF, List.all_cons, Bool.and_eq_true]
    rw [h2]
    by_cases g : p x = true
    · rw [if_pos g]; exact ⟨by omega, ⟨fun h => by omega, fun h => ⟨g, by omega⟩⟩⟩
    · rw [if_neg g]; exact ⟨by omega, ⟨fun h => absurd h.1 g, fun h => by omega⟩⟩
theorem sumL_sF (c u : Int) : ∀ q, sumL c u q = sF (fun x => if nth 0 x 0 = c ∧ nth 0 x 1 = u then am x else 0) q
  | [] => rfl
  | x :: q => by simp only [sumL, sF, sumL_sF c u q]
theorem sumC_sF (u : Int) : ∀ q, sumC u q = sF (fun x => if nth 0 x 1 = u then am x else 0) q
  | [] => rfl
  | x :: q => by simp only [sumC, sF, sumC_sF u q]
abbrev n5 (x : List Int) : List Int := [nth 0 x 0, nth 0 x 1, nth 0 x 2, nth 0 x 3, nth 0 x 4]
abbrev turn (q : List (List Int)) (i j : Nat) : List (List Int) := (q.set i (n5 (nth [] q j))).set j (n5 (nth [] q i))
theorem turn_sF {f : List Int → Int} (hf : ∀ x, f (n5 x) = f x) {q : List (List Int)} {i j : Nat} (hi : i < q.length) (hj : j < q.length) : sF f (turn q i j) = sF f q := by
  unfold turn
  rw [nth_lt [] hi, nth_lt [] hj]
  have hj' : j < (q.set i (n5 q[j])).length := by rw [List.length_set]; exact hj
  rw [sF_set f _ _ j hj', sF_set f _ _ i hi, List.getElem_set, hf, hf]
  by_cases e : i = j
  · subst e; rw [if_pos rfl, hf]; omega
  · rw [if_neg e]; omega
theorem turn_all {p : List Int → Bool} (hp : ∀ x, p (n5 x) = p x) {q : List (List Int)} {i j : Nat} (hi : i < q.length) (hj : j < q.length) : (turn q i j).all p = q.all p := by
  have h1 := (sF_all p (turn q i j)).2
  have h2 := (sF_all p q).2
  rw [turn_sF (fun x => by rw [hp]) hi hj] at h1
  rw [Bool.eq_iff_iff, h1, h2]
theorem turn_len (q : List (List Int)) (i j : Nat) : (turn q i j).length = q.length := by unfold turn; rw [List.length_set, List.length_set]
theorem codeP_congr {β : Int → Int → Int} {a b : List (List Int)} (h1 : chk a = chk b) (h2 : addQ β a = addQ β b) (h3 : ∀ u, sumC u a = sumC u b) : codeP β a = codeP β b := by
  have e : (∀ u, sumC u a = 0) ↔ (∀ u, sumC u b = 0) := ⟨fun h u => by rw [← h3]; exact h u, fun h u => by rw [h3]; exact h u⟩
  unfold codeP
  rw [h1, h2]
  by_cases g1 : chk b ≠ 0
  · rw [if_pos g1, if_pos g1]
  · rw [if_neg g1, if_neg g1]
    by_cases g2 : ¬ ∀ c u, P36 (addQ β b c u)
    · rw [if_pos g2, if_pos g2]
    · rw [if_neg g2, if_neg g2]
      by_cases g3 : ∀ u, sumC u b = 0
      · rw [if_neg (Classical.not_not.2 (e.2 g3)), if_neg (Classical.not_not.2 g3)]
      · rw [if_pos (fun h => g3 (e.1 h)), if_pos g3]
theorem turn_code {q : List (List Int)} {i j : Nat} (hi : i < q.length) (hj : j < q.length) (β : Int → Int → Int) : codeP β (turn q i j) = codeP β q ∧ nextP β (turn q i j) = nextP β q := by
  have a : allA (turn q i j) = allA q := turn_all (fun x => rfl) hi hj
  have m : allM (turn q i j) = allM q := turn_all (fun x => rfl) hi hj
  have k : chk (turn q i j) = chk q := by unfold chk; rw [a, m, turn_len]
  have s : addQ β (turn q i j) = addQ β q := by
    funext c u; unfold addQ
    rw [sumL_sF, sumL_sF, turn_sF (fun x => rfl) hi hj]
  have t : ∀ u, sumC u (turn q i j) = sumC u q := fun u => by rw [sumC_sF, sumC_sF, turn_sF (fun x => rfl) hi hj]
  have c : codeP β (turn q i j) = codeP β q := codeP_congr k s t
  exact ⟨c, by unfold nextP; rw [c, s]⟩
theorem turn_WL {q : List (List Int)} (h : WL q) {i j : Nat} (hi : i < q.length) (hj : j < q.length) : WL (turn q i j) := by
  intro x hx
  rcases List.mem_or_eq_of_mem_set hx with hx | hx
  · rcases List.mem_or_eq_of_mem_set hx with hx | hx
    · exact h x hx
    · rw [hx, nth_lt [] hj]; exact (h q[j] (List.getElem_mem hj) : wl q[j])
  · rw [hx, nth_lt [] hi]; exact (h q[i] (List.getElem_mem hi) : wl q[i])
abbrev ng (x : List Int) : List Int := [nth 0 x 0, nth 0 x 1, -(cf (nth 0 x 2) (nth 0 x 3)) / 18446744073709551616, -(cf (nth 0 x 2) (nth 0 x 3)) % 18446744073709551616, nth 0 x 4]
theorem cf_bd {x : List Int} (hw : wl x) (hm : okM x) : -170141183460469231731687303715884105728 < cf (nth 0 x 2) (nth 0 x 3) ∧ cf (nth 0 x 2) (nth 0 x 3) < 170141183460469231731687303715884105728 := by
  obtain ⟨h1, h2⟩ := hw
  obtain ⟨_, _, h3⟩ := hm.1
  unfold I64 at h1
  unfold Word at h2
  unfold cf
  omega
theorem ng_am (x : List Int) : am (ng x) = -(am x) := by
  unfold am
  show cf (-(cf (nth 0 x 2) (nth 0 x 3)) / 18446744073709551616) (-(cf (nth 0 x 2) (nth 0 x 3)) % 18446744073709551616) * p10z (12 - nth 0 x 4) = _
  rw [cf_dk, Int.neg_mul]
theorem ng_ok {x : List Int} (hw : wl x) (hm : okM x) : wl (ng x) ∧ okM (ng x) := by
  have hb := cf_bd hw hm
  obtain ⟨f, s, a1, a2⟩ := hm
  have e := ng_am x
  refine ⟨⟨?_, ?_⟩, ⟨f.1, f.2.1, ?_⟩, s, by omega, by omega⟩
  · show I64 (-(cf (nth 0 x 2) (nth 0 x 3)) / 18446744073709551616)
    unfold I64; omega
  · show Word (-(cf (nth 0 x 2) (nth 0 x 3)) % 18446744073709551616)
    unfold Word; omega
  · show ¬ (-(cf (nth 0 x 2) (nth 0 x 3)) / 18446744073709551616 = -9223372036854775808 ∧ -(cf (nth 0 x 2) (nth 0 x 3)) % 18446744073709551616 = 0)
    omega
theorem ng_sumL (c u : Int) : ∀ q : List (List Int), sumL c u (q.map ng) = -(sumL c u q)
  | [] => rfl
  | x :: q => by
    simp only [List.map_cons, sumL, ng_sumL c u q, ng_am]
    show (if nth 0 x 0 = c ∧ nth 0 x 1 = u then -(am x) else 0) + _ = _
    split <;> omega
theorem ng_sumC (u : Int) : ∀ q : List (List Int), sumC u (q.map ng) = -(sumC u q)
  | [] => rfl
  | x :: q => by
    simp only [List.map_cons, sumC, ng_sumC u q, ng_am]
    show (if nth 0 x 1 = u then -(am x) else 0) + _ = _
    split <;> omega
theorem order23 {K : Nat} (hK : 400 ≤ K) {q : List (List Int)} (hw : WL q) (hm : allM q = true) (hq : q.length ≤ 16) (R : List (List Int)) (m : List (List Int × List Int)) (x : Int) : ∀ (k i : Nat) (B : List (List Int)), i ≤ q.length → B.length = i → q.length - i < k →
    F.law13_ChartOrder_l23 K k R B q (q.length : Int) (i : Int) m x = some (.inl (R, B ++ (q.drop i).map ng, m, x)) := by
  intro k
  induction k with
  | zero => intro i B _ _ h; omega
  | succ k ih =>
    intro i B hi hB hk
    unfold F.law13_ChartOrder_l23
    by_cases c : i < q.length
    · simp only [bi_eq, Int.toNat_natCast, nth_lt [] c]
      have hx := hw _ (List.getElem_mem c)
      have hxm : okM q[i] := by simpa using all_get hm c
      rw [if_pos (by simp; omega), if_pos (inb c), wsucc (by omega), List.drop_eq_getElem_cons c]
      generalize q[i] = x at hx hxm ⊢
      have hb := cf_bd hx hxm
      rw [neg_ok (by omega) hx.1 hx.2, if_pos hxm.1, Option.bind_some]
      unfold pack
      rw [if_pos (show -170141183460469231731687303715884105728 < -(cf (nth 0 x 2) (nth 0 x 3)) ∧ -(cf (nth 0 x 2) (nth 0 x 3)) < 170141183460469231731687303715884105728 by omega)]
      simp only
      rw [if_neg (by decide), if_pos (decide_eq_true (by omega)), ih (i + 1) _ (by omega) (by rw [List.length_append, hB]; rfl) (by omega), List.append_assoc]
      rfl
    · have : i = q.length := by omega
      subst this
      simp only [bi_eq]
      rw [if_neg (by simp), List.drop_length]
      simp
theorem order_tail {K : Nat} (hK : 50000 ≤ K) {q : List (List Int)} (hw : WL q) {m : List (List Int × List Int)} {β : Int → Int → Int} (hL : LM okA m (nextP β q)) (hb : ∀ c u, P36 (β c u)) (hb' : ∀ c u, P36 (nextP β q c u)) {n : Int} (n0 : 0 ≤ n) (n1 : n < 1000) :
    bi (codeP β q != 0) ((F.cL_Trial K m n).bind fun r10 => (F.ref13_Same K r10.1 (D.l (asL (trL β))).toL).bind fun r11 => some r11) (casO (F.law13_ChartOrder_l23 K K (trL β) [] q (q.length : Int) 0 m n) (fun r12 => (F.cL_Post K r12.2.2.1 r12.2.2.2 r12.2.1).bind fun r13 => bi (r13.1 == 0) ((F.cL_Trial K r13.2.1 r13.2.2).bind fun r14 => (F.ref13_Same K r14.1 (D.l (asL r12.1)).toL).bind fun r15 => some r15) (some false)) (fun r16 => some r16)) = some true := by
  have hl := trL_len β
  have hs := same13 (K := K) (asL_LQ (trL β)) (by omega) (by omega)
  simp only [bi_eq, toL_l]
  by_cases c : codeP β q = 0
  · rw [if_neg (by simpa using c)]
    obtain ⟨k1, k2, k3⟩ := codeP_zero c
    obtain ⟨a1, a2, a3⟩ := chk_zero k1
    have t := order23 (K := K) (by omega) hw a3 a2 (trL β) m n K 0 [] (by omega) rfl (by omega)
    rw [List.drop_zero, List.nil_append, show ((0 : Nat) : Int) = (0 : Int) from rfl] at t
    rw [t]
    simp only [casO, Option.bind_some]
    rw [nextP_of c] at hL hb'
    have wn : WL (q.map ng) := fun y hy => by
      obtain ⟨x, hx, rfl⟩ := List.mem_map.1 hy
      exact (ng_ok (hw x hx) (by simpa using List.all_eq_true.1 a3 x hx)).1
    have an : allA (q.map ng) = true := by
      unfold allA; rw [List.all_map]; exact a1
    have mn : allM (q.map ng) = true := by
      unfold allM; rw [List.all_map, List.all_eq_true]
      exact fun x hx => decide_eq_true (ng_ok (hw x hx) (by simpa using List.all_eq_true.1 a3 x hx)).2
    have bk : addQ (addQ β q) (q.map ng) = β := by
      funext c u; unfold addQ; rw [ng_sumL]; omega
    have cn : codeP (addQ β q) (q.map ng) = 0 := codeP_of (chk_of an (by rw [List.length_map]; exact a2) mn) (fun c u => by rw [bk]; exact hb c u) (fun u => by rw [ng_sumC, k3 u]; rfl)
    obtain ⟨m', p1, p2, p3⟩ := post13 (K := K) wn (by rw [List.length_map]; omega) (by rw [List.length_map]; omega) hL hb' n0 (by omega)
    rw [nextP_of cn, bk] at p2
    rw [p1, Option.bind_some]
    simp only [cn]
    rw [if_pos (by decide), trial13 (K := K) (by omega) p2, Option.bind_some]
    simp only
    rw [hs]
    rfl
  · rw [if_pos (by simpa using c)]
    rw [nextP_no c] at hL
    rw [trial13 (K := K) (by omega) hL, Option.bind_some]
    simp only
    rw [hs]
    rfl
theorem order_loop {K : Nat} (hK : 3518437300000 ≤ K) {dd : List (List D)} (hd : DOk (.sl [.sl LSh]) (.l dd)) (hf : DFit reachBytes (.sl [.sl LSh]) (.l dd)) (q : List (List Int)) (x1 x2 : Int) : ∀ (k i : Nat) (m m2 : List (List Int × List Int)) (β : Int → Int → Int) (n : Int), i ≤ 20 → i ≤ dd.length → LM okA m β → LM okA m2 β → (∀ c u, P36 (β c u)) → 0 ≤ n → n ≤ i → 21 - i < k →
    ∃ m' m2' β' n', F.law13_ChartOrder_l5 K k q x1 x2 dd (dd.length : Int) (i : Int) m n m2 n = some (q, x1, x2, m', n', m2', n') ∧ LM okA m' β' ∧ LM okA m2' β' ∧ (∀ c u, P36 (β' c u)) ∧ 0 ≤ n' ∧ n' ≤ 20 := by
  intro k
  induction k with
  | zero => intro i m m2 β n _ _ _ _ _ _ _ h; omega
  | succ k ih =>
    intro i m m2 β n hi hl hL hL2 hb n0 n1 hk
    unfold F.law13_ChartOrder_l5
    simp only [bi_eq]
    by_cases c : i < dd.length
    · rw [if_pos (by simp; omega), Int.toNat_natCast, if_pos (inb c)]
      by_cases c60 : i ≥ 20
      · rw [if_pos (by simp; omega)]
        exact ⟨m, m2, β, n, rfl, hL, hL2, hb, n0, by omega⟩
      · rw [if_neg (by simp; omega)]
        have hw : WL (asQ (nth d0 (nth [] dd i) 0).toL) := entry_wl hd c
        have hft : (nth d0 (nth [] dd i) 0).toL.length * 40 ≤ 140737488351232 := entry_fit hf c
        have hql := asQ_len (nth d0 (nth [] dd i) 0).toL
        simp only [toL_l, List.nil_append]
        generalize (nth d0 (nth [] dd i) 0).toL = E at hw hft hql ⊢
        obtain ⟨m', p1, p2, p3⟩ := post13 (K := K) hw (by omega) (by omega) hL hb n0 (by omega)
        obtain ⟨m2', s1, s2, s3⟩ := post13 (K := K) hw (by omega) (by omega) hL2 hb n0 (by omega)
        simp only [hql]
        rw [if_pos (decide_eq_true (by omega)), p1, Option.bind_some, if_pos (decide_eq_true (by omega)), s1, Option.bind_some, wsucc (by omega)]
        exact ih (i + 1) m' m2' _ (if codeP β (asQ E) = 0 then n + 1 else n) (by omega) (by omega) p2 s2 p3 (by split <;> omega) (by split <;> omega) (by omega)
    · rw [if_neg (by simp; omega)]
      exact ⟨m, m2, β, n, rfl, hL, hL2, hb, n0, by omega⟩
theorem umod {x : Int} {n : Nat} (h0 : 0 < n) (h1 : n ≤ 3518437208883) : ∃ i : Nat, i < n ∧ IntKind.i64.wrap ((IntKind.u64.wrap x).tmod (n : Int)) = (i : Int) := by
  have w : 0 ≤ IntKind.u64.wrap x := by rw [wu]; omega
  rw [tm _ w]
  have h2 := Int.emod_nonneg (IntKind.u64.wrap x) (show (n : Int) ≠ 0 by omega)
  have h3 := Int.emod_lt_of_pos (IntKind.u64.wrap x) (show (0 : Int) < n by omega)
  refine ⟨(IntKind.u64.wrap x % (n : Int)).toNat, by omega, ?_⟩
  rw [iw (by omega) (by omega)]; omega
namespace L
theorem ChartOrder {dd : List (List D)} {q : List (List Int)} {x2 x3 : Int} (w0 : DOk (.sl [.sl LSh]) (.l dd)) (w1 : q.length ≤ maxLen ∧ ∀ y ∈ q, KsOk [.i64, .i64, .i64, .u64, .i64] y) (w2 : (Lit.int .i64 x2).wf = true) (w3 : (Lit.int .i64 x3).wf = true) (hf : UFit reachBytes (.ro [.sl LSh]) (.d dd)) (hq : UFit reachBytes (.recs [.i64, .i64, .i64, .u64, .i64] false) (.rr q)) : ∃ K, F.law13_ChartOrder K dd q x2 x3 = some true := by
  have hq : q.length * 40 ≤ 140737488351232 := hq
  have hw : WL q := fun x hx => wl_ks (w1.2 x hx)
  refine ⟨3518437300000, ?_⟩
  generalize hKK : (3518437300000 : Nat) = K
  have hK : 3518437300000 ≤ K := by omega
  have nw : F.chart_New K = some ([], 0) := rfl
  obtain ⟨m1, m2, β, n, h1, h2, h3, h4, n0, n1⟩ := order_loop (K := K) hK w0 hf q x2 x3 K 0 [] [] β0 0 (by omega) (by omega) (LM.empty okA) (LM.empty okA) β0_P (by omega) (by omega) (by omega)
  rw [show ((0 : Nat) : Int) = (0 : Int) from rfl] at h1
  have t1 := trial13 (K := K) (by omega) h2 n
  obtain ⟨m5, p1, p2, p3⟩ := post13 (K := K) hw (by omega) (by omega) h2 h4 n0 (by omega)
  have c1 : (Decidable.decide (q.length ≤ 3518437208883)) = true := decide_eq_true (by omega)
  have nb : 0 ≤ (if codeP β q = 0 then n + 1 else n) ∧ (if codeP β q = 0 then n + 1 else n) < 1000 := by split <;> omega
  have ht := order_tail (K := K) (by omega) hw p2 h4 p3 nb.1 nb.2
  have t5 := trial13 (K := K) (by omega) p2 (if codeP β q = 0 then n + 1 else n)
  simp only [t5, Option.bind_some, toL_l, bi_eq] at ht
  have hs := same13 (K := K) (asL_LQ (trL (nextP β q))) (by have := trL_len (nextP β q); omega) (by have := trL_len (nextP β q); omega)
  unfold F.law13_ChartOrder
  rw [awake13 (by omega), Option.bind_some]
  simp only [bi_eq, Bool.not_true, Bool.false_eq_true, if_false, nw, Option.bind_some, toL_l]
  rw [h1, Option.bind_some]
  simp only [t1, Option.bind_some, List.nil_append, Nat.zero_add, c1, if_true]
  by_cases l : q.length = 0
  · have e0 : q = [] := List.eq_nil_of_length_eq_zero l
    obtain ⟨m6, s1, s2, s3⟩ := post13 (K := K) hw (by omega) (by omega) h3 h4 n0 (by omega)
    have t6 := trial13 (K := K) (by omega) s2 (if codeP β q = 0 then n + 1 else n)
    rw [if_neg (show ¬ (decide ((q.length : Int) > 0) = true) by rw [decide_eq_true_eq]; omega), p1, Option.bind_some, s1, Option.bind_some]
    simp only [bne_self_eq_false, Bool.false_eq_true, if_false, t5, t6, Option.bind_some]
    rw [hs]
    simp only [bi_eq, Option.bind_some, Bool.not_true, Bool.false_eq_true, if_false]
    exact ht
  · obtain ⟨i, hi, ei⟩ := umod (x := x2) (n := q.length) (by omega) (by omega)
    obtain ⟨j, hj, ej⟩ := umod (x := x3) (n := q.length) (by omega) (by omega)
    have ul : IntKind.u64.wrap (q.length : Int) = (q.length : Int) := uw (by omega) (by omega)
    rw [if_pos (show (decide ((q.length : Int) > 0) = true) by rw [decide_eq_true_eq]; omega)]
    simp only [ul, ei, ej, Int.toNat_natCast, List.length_set]
    obtain ⟨u1, u2⟩ := turn_code hi hj β
    obtain ⟨m6, s1, s2, s3⟩ := post13 (K := K) (turn_WL hw hi hj) (by rw [turn_len]; omega) (by rw [turn_len]; omega) h3 h4 n0 (by omega)
    rw [u1] at s1
    rw [u2] at s2
    have t6 := trial13 (K := K) (by omega) s2 (if codeP β q = 0 then n + 1 else n)
    rw [if_neg (show ¬ (decide ((q.length : Int) = 0) = true) by rw [decide_eq_true_eq]; omega), if_neg (show ¬ (decide ((q.length : Int) = 0) = true) by rw [decide_eq_true_eq]; omega), if_pos (inb hj), if_pos (inb hi), if_pos (inb hi), if_pos (inb hj), p1, Option.bind_some]
    rw [s1, Option.bind_some]
    simp only [bne_self_eq_false, Bool.false_eq_true, if_false, t5, t6, Option.bind_some]
    rw [hs]
    simp only [bi_eq, Option.bind_some, Bool.not_true, Bool.false_eq_true, if_false]
    exact ht
end L
end Go.Proofs.Ytimhhefngigfeaa.Wide

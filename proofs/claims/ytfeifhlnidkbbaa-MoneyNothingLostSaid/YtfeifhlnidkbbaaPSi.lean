/- Money: the law MoneyScaled. Conditions: none here. -/
import Derived.Test.YtfeifhlnidkbbaaPXs
import Derived.Test.YtfeifhlnidkbbaaFF
set_option linter.unusedVariables false
set_option linter.unusedSimpArgs false
namespace Go.Proofs.Ytfeifhlnidkbbaa.Wide
open Go Go.RowKit Go.Proofs.Ytfeifhlnidkbbaa.Vm
theorem awake05k (k : Nat) : F.law05_awake (k + 300) = some true := by kernel_rfl
theorem awake05g {K : Nat} (h : 300 ≤ K) : F.law05_awake K = some true := by
  obtain ⟨k, rfl⟩ : ∃ k, K = k + 300 := ⟨K - 300, by omega⟩
  exact awake05k k
theorem take_more (l : List Int) {i : Nat} (h : i < l.length) : l.take (i + 1) = l.take i ++ [nth 0 l i] := by
  rw [List.take_add_one, List.getElem?_eq_getElem h, nth_eq, List.getD_eq_getElem?_getD, List.getElem?_eq_getElem h]; rfl
theorem nth_take (l : List Int) {i n : Nat} (h : i < n) : nth 0 (l.take n) i = nth 0 l i := by
  rw [nth_eq, nth_eq, List.getD_eq_getElem?_getD, List.getD_eq_getElem?_getD, List.getElem?_take, if_pos h]
theorem nth_map (l : List Int) (f : Int → Int) {i : Nat} (h : i < l.length) : nth 0 (l.map f) i = f (nth 0 l i) := by
  rw [nth_eq, nth_eq, List.getD_eq_getElem?_getD, List.getD_eq_getElem?_getD, List.getElem?_map, List.getElem?_eq_getElem h]; rfl
theorem mem_nth {l : List Int} {i : Nat} (h : i < l.length) : nth 0 l i ∈ l := by
  rw [nth_eq, List.getD_eq_getElem?_getD, List.getElem?_eq_getElem h]; exact List.getElem_mem _
theorem l6_ok {K : Nat} {x : Int} (hx : 0 ≤ x ∧ x ≤ 255) {l : List Int} {c m : Int} (hl : l.length ≤ 9223372036854775807) (hw : ∀ y ∈ l, 0 ≤ y ∧ y ≤ 65535) : ∀ (k i : Nat), i ≤ l.length → l.length - i < k →
    F.law05_MoneyScaled_l6 K k x ((l.take i).take 64) (((l.take i).take 64).map (· * (1 + x))) l (l.length : Int) (i : Int) c m = some (l.take 64, (l.take 64).map (· * (1 + x)), c, m)
  | 0, i, _, h => by omega
  | k + 1, i, hi, hk => by
    rw [F.law05_MoneyScaled_l6]
    simp only [bi_eq, Int.toNat_natCast]
    by_cases e : i = l.length
    · rw [if_neg (by simp <;> omega), e, List.take_length]
    · have hi' : i < l.length := by omega
      have b := hw _ (mem_nth hi')
      have e1 : IntKind.i64.wrap (nth 0 l i) = nth 0 l i := iw (by omega) (by omega)
      have e2 : IntKind.i64.wrap x = x := iw (by omega) (by omega)
      have e3 : IntKind.i64.wrap (1 + x) = 1 + x := iw (by omega) (by omega)
      have mm := mul_le b.1 b.2 (show 0 ≤ 1 + x by omega) (show 1 + x ≤ 256 by omega)
      have e4 : IntKind.i64.wrap (nth 0 l i * (1 + x)) = nth 0 l i * (1 + x) := iw (by omega) (by omega)
      have e5 : IntKind.i64.wrap ((i : Int) + 1) = ((i + 1 : Nat) : Int) := by rw [iw (by omega) (by omega)]; omega
      have ih := l6_ok (K := K) (c := c) (m := m) hx hl hw k (i + 1) hi' (by omega)
      rw [if_pos (by simp <;> omega), if_pos (by simp <;> omega), e1, e2, e3, e4, e5]
      by_cases d : i < 64
      · rw [if_pos (by simp <;> omega), if_pos (by simp <;> omega), if_pos (by simp <;> omega)]
        rw [take_more l hi', List.take_of_length_le (l := l.take i ++ [nth 0 l i]) (by simp <;> omega), List.map_append] at ih
        rw [List.take_of_length_le (l := l.take i) (by simp <;> omega)]
        exact ih
      · rw [if_neg (by simp <;> omega)]
        rw [List.take_take, Nat.min_eq_left (by omega)] at ih ⊢
        exact ih
theorem l17s_ok {K : Nat} {a : List Rw} : ∀ (k i : Nat), i ≤ a.length → a.length < 9223372036854775807 → a.length - i < k → F.law05_MoneyScaled_l17 K k a a (a.length : Int) (i : Int) = some (Sum.inl ())
  | 0, i, _, _, h => by omega
  | k + 1, i, hi, hl, hk => by
    rw [F.law05_MoneyScaled_l17]
    simp only [bi_eq, Int.toNat_natCast]
    by_cases e : i = a.length
    · rw [if_neg (by simp <;> omega)]
    · rw [if_pos (by simp <;> omega), if_pos (by simp <;> omega), if_pos (by simp <;> omega), if_neg (by simp), iw (x := (i : Int) + 1) (by omega) (by omega), show (i : Int) + 1 = ((i + 1 : Nat) : Int) by omega]
      exact l17s_ok k (i + 1) (by omega) hl (by omega)
theorem rows_eq {a b : List Rw} (hl : a.length = b.length) (h : ∀ i, i < a.length → nth [] a i = nth [] b i) : a = b := by
  refine List.ext_getElem hl fun i h1 h2 => ?_
  have := h i h1
  rw [nth_get a h1, nth_get b h2] at this
  exact this
theorem sr_scale {T S c : Int} (hc : 0 < c) {w w' : List Int} {i : Nat} (h : nth 0 w' i = nth 0 w i * c) : sr T (S * c) w' i = sr T S w i * c ∧ sq T (S * c) w' i = sq T S w i := by
  unfold sr sq
  rw [h, ← Int.mul_assoc]
  refine ⟨?_, Int.mul_ediv_mul_of_pos_left _ _ hc⟩
  rw [Int.mul_comm _ c, Int.mul_comm S, Int.mul_emod_mul_of_pos _ _ hc, Int.mul_comm]
theorem part_congr {T S T' S' m : Int} {w w' : List Int} {σ τ : Nat → Nat} {t : Nat} (h1 : sq T S w (σ t) = sq T' S' w' (τ t)) (h2 : T - sm (sq T S w) w.length = T' - sm (sq T' S' w') w'.length) : mpart T S w m σ t = mpart T' S' w' m τ t := by
  unfold mpart
  rw [h1, h2]
theorem MoneyScaled {K : Nat} (hK : 300 ≤ K) {a b x : Int} {l : List Int} (hb : 0 ≤ b ∧ b ≤ 255) (hx : 0 ≤ x ∧ x ≤ 255) (hl : l.length ≤ 9223372036854775807) (hKl : l.length < K) (hw : ∀ y ∈ l, 0 ≤ y ∧ y ≤ 65535) :
    F.law05_MoneyScaled K a b l x = some true := by
  have hc : Cu (IntKind.i64.wrap (b.tmod 4)) := by rw [tm _ hb.1, iw (by omega) (by omega)]; unfold Cu; omega
  have hm : Am (a.tmod 10000000000001) := by
    unfold Am
    rcases Int.le_total 0 a with h | h
    · rw [Int.tmod_eq_emod_of_nonneg h]; omega
    · have : a.tmod 10000000000001 = -((-a).tmod 10000000000001) := by rw [Int.neg_tmod]; omega
      rw [this, Int.tmod_eq_emod_of_nonneg (by omega)]; omega
  generalize hcc : IntKind.i64.wrap (b.tmod 4) = c at *
  generalize hmm : a.tmod 10000000000001 = m at *
  have e1 := l6_ok (K := K) (c := c) (m := m) hx hl hw K 0 (Nat.zero_le _) (by omega)
  rw [List.take_zero, List.take_nil, List.map_nil] at e1
  have e1 : F.law05_MoneyScaled_l6 K K x [] [] l (l.length : Int) 0 c m = _ := e1
  unfold F.law05_MoneyScaled
  rw [awake05g hK, Option.bind_some, bi_eq, if_neg (by decide), hcc, hmm, e1, Option.bind_some]
  simp only
  have hn : (l.take 64).length ≤ 64 := by rw [List.length_take]; omega
  have hel : ∀ i, i < (l.take 64).length → 0 ≤ nth 0 (l.take 64) i ∧ nth 0 (l.take 64) i ≤ 65535 := fun i hi => hw _ (List.mem_of_mem_take (mem_nth hi))
  generalize l.take 64 = w at *
  have hml : (w.map (· * (1 + x))).length = w.length := List.length_map _
  have hmn : ∀ i, i < w.length → nth 0 (w.map (· * (1 + x))) i = nth 0 w i * (1 + x) := fun i hi => nth_map w _ hi
  have w1 : Wok w := fun i hi => by have := hel i hi; omega
  have w2 : Wok (w.map (· * (1 + x))) := fun i hi => by
    rw [hml] at hi
    have b := hel i hi
    have := mul_le b.1 b.2 (show 0 ≤ 1 + x by omega) (show 1 + x ≤ 256 by omega)
    rw [hmn i hi]
    omega
  have hs : sm (nth 0 (w.map (· * (1 + x)))) (w.map (· * (1 + x))).length = sm (nth 0 w) w.length * (1 + x) := by
    rw [hml, sm_congr (g := fun i => (1 + x) * nth 0 w i) (fun i hi => by rw [hmn i hi, Int.mul_comm]), sm_mul, Int.mul_comm]
  have fin : ∀ o : List Rw, o.length ≤ 64 → (bi ((0 : Int) != 0) (some Bool.false) (bi ((o.length : Int) != (o.length : Int)) (some Bool.false) (casO (F.law05_MoneyScaled_l17 K K o o (o.length : Int) 0) (fun r4 => (some Bool.true)) (fun r5 => (some r5))))) = some true := fun o ho => by
    have : F.law05_MoneyScaled_l17 K K o o (o.length : Int) 0 = _ := l17s_ok (K := K) (a := o) K 0 (Nat.zero_le _) (by omega) (by omega)
    rw [this]
    simp [bi_eq, casO]
  generalize w.map (· * (1 + x)) = v at *
  by_cases z : w.length = 0
  · rw [split_len (by omega) (by omega) w1 (.inl z), Option.bind_some, split_len (by omega) (by omega) w2 (.inl (by omega)), Option.bind_some]
    have : F.law05_MoneyScaled_l17 K K [] [] (([] : List Rw).length : Int) 0 = _ := l17s_ok (K := K) (a := []) K 0 (Nat.zero_le _) (by simp) (by simp <;> omega)
    simp only [bi_eq]
    rw [if_neg (by simp), if_neg (by simp), this]
    rfl
  · by_cases s0 : sm (nth 0 w) w.length = 0
    · rw [split_zero (by omega) w1 ⟨by omega, hn⟩ ⟨hc, hm⟩ s0, Option.bind_some, split_zero (by omega) w2 ⟨by omega, by omega⟩ ⟨hc, hm⟩ (by rw [hs, s0]; simp), Option.bind_some]
      have : F.law05_MoneyScaled_l17 K K [] [] (([] : List Rw).length : Int) 0 = _ := l17s_ok (K := K) (a := []) K 0 (Nat.zero_le _) (by simp) (by simp <;> omega)
      simp only [bi_eq]
      rw [if_neg (by simp), if_neg (by simp), this]
      rfl
    · have sp : 0 < sm (nth 0 w) w.length := by
        have := (sm_bd (f := nth 0 w) (A := 1000000000) (n := w.length) w1).1
        omega
      have am := hm
      unfold Am at am
      have hT : 0 ≤ mag m ∧ mag m ≤ 10000000000000 := by unfold mag; split <;> omega
      have s1 : Spl (mag m) (sm (nth 0 w) w.length) w := ⟨w1, hn, rfl, sp, hT⟩
      have s2 : Spl (mag m) (sm (nth 0 v) v.length) v := ⟨w2, by omega, rfl, by rw [hs]; exact Int.mul_pos sp (by omega), hT⟩
      obtain ⟨σ, o, o1, o2, o3, o4⟩ := split_ok (show 200 < K by omega) ⟨hc, hm⟩ s1
      obtain ⟨τ, p, p1, p2, p3, p4⟩ := split_ok (show 200 < K by omega) ⟨hc, hm⟩ s2
      rw [hs] at p1 p4
      have sc : ∀ i, i < w.length → sr (mag m) (sm (nth 0 w) w.length * (1 + x)) v i = sr (mag m) (sm (nth 0 w) w.length) w i * (1 + x) ∧ sq (mag m) (sm (nth 0 w) w.length * (1 + x)) v i = sq (mag m) (sm (nth 0 w) w.length) w i := fun i hi => sr_scale (by omega) (hmn i hi)
      have same : ∀ t, t < w.length → σ t = τ t := o1.unique p1 hml fun i j hi hj => by
        unfold LtR
        rw [(sc i hi).1, (sc j hj).1]
        have c0 : 0 < 1 + x := by omega
        constructor
        · intro h
          rcases h with h | h
          · exact .inl (Int.mul_lt_mul_of_pos_right h c0)
          · exact .inr ⟨by rw [h.1], h.2⟩
        · intro h
          rcases h with h | h
          · exact .inl (Int.lt_of_mul_lt_mul_right h (Int.le_of_lt c0))
          · exact .inr ⟨Int.eq_of_mul_eq_mul_right (by omega) h.1, h.2⟩
      have eq : o = p := by
        refine rows_eq (by omega) fun j hj => ?_
        obtain ⟨t, t1, t2⟩ := o1.onto j (by omega)
        have a1 := o4 t t1
        have a2 := p4 t (by omega)
        rw [← same t t1, t2] at a2
        rw [t2] at a1
        rw [a1, a2]
        congr 2
        refine part_congr ?_ ?_
        · rw [← same t t1, (sc _ (o1.rng t t1)).2]
        · rw [hml, sm_congr fun i hi => (sc i hi).2]
      subst eq
      rw [o2, Option.bind_some, p2, Option.bind_some]
      exact fin o (by omega)
namespace L
theorem MoneyScaled {a b x : Int} {l : List Int} (w0 : (Lit.int .i64 a).wf = true) (w1 : (Lit.int .u8 b).wf = true) (w2 : l.length ≤ maxLen ∧ ∀ y ∈ l, (Lit.int .u16 y).wf = true) (w3 : (Lit.int .u8 x).wf = true) : ∃ K, F.law05_MoneyScaled K a b l x = some true :=
  ⟨l.length + 300, Wide.MoneyScaled (by omega) (by simp [Lit.wf, IntKind.min, IntKind.max, IntKind.signed, IntKind.bits] at w1; omega) (by simp [Lit.wf, IntKind.min, IntKind.max, IntKind.signed, IntKind.bits] at w3; omega) w2.1 (by omega) fun y hy => by
    have := w2.2 y hy
    simp [Lit.wf, IntKind.min, IntKind.max, IntKind.signed, IntKind.bits] at this; omega⟩
end L
end Go.Proofs.Ytfeifhlnidkbbaa.Wide

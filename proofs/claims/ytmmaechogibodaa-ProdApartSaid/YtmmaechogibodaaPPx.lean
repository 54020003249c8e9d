/- Several of my texts in one: plain facts about the printed functions. Conditions: none here. -/
import Derived.Test.YtmmaechogibodaaFO
import Derived.KernelRfl
import Derived.Test.YtmmaechogibodaaFP
import Derived.Test.YtmmaechogibodaaVmZ
import Derived.Test.YtmmaechogibodaaFT
set_option linter.unusedVariables false
set_option linter.unusedSimpArgs false
namespace Go.Proofs.Ytmmaechogibodaa.Wide
open Go Go.RowKit Go.Proofs.Ytmmaechogibodaa.Vm
theorem awake12 (k : Nat) : F.law12_awake (k + 100) = some true := by kernel_rfl
theorem iw {x : Int} (h0 : -9223372036854775808 ≤ x) (h1 : x < 9223372036854775808) : IntKind.i64.wrap x = x := by
  have e : IntKind.i64.wrap x = if x % 18446744073709551616 ≥ 9223372036854775808 then x % 18446744073709551616 - 18446744073709551616 else x % 18446744073709551616 := by
    simp [IntKind.wrap, IntKind.signed, IntKind.bits]
  rw [e]; split <;> omega
theorem plain_ok (K : Nat) (a d : Int) : F.law12_plain K a d = some (a, 1, 0, d, 0, 0, 0, 0, [[0, 5]]) := by kernel_rfl
theorem digits0 (k : Nat) : F.money_Digits (k + 100) 0 = some (2, 0) := by kernel_rfl
theorem tiers0 (k : Nat) : F.prod_Tiers (k + 100) [[0, 5]] = some 0 := by kernel_rfl
theorem within0 (k : Nat) : F.prod_within (k + 100) 0 10000000000000 = some true := by kernel_rfl
theorem copied0 (k : Nat) (a d : Int) : F.prod_copied (k + 100) a 1 0 d 0 0 0 0 [[0, 5]] = some (a, 1, 0, d, 0, 0, 0, 0, [[0, 5]]) := by kernel_rfl
theorem copiedro0 (k : Nat) (a d : Int) : F.prod_copied_ro (k + 100) a 1 0 d 0 0 0 0 [[.i 0, .i 5]] = some (a, 1, 0, d, 0, 0, 0, 0, [[0, 5]]) := by kernel_rfl
theorem check0 (k : Nat) {a d : Int} (ha : 1 ≤ a ∧ a ≤ 1000000000) (hd : 1 ≤ d ∧ d ≤ 3652059) : F.prod_Check (k + 100) a 1 0 d 0 0 0 0 [[0, 5]] = some 0 := by
  unfold F.prod_Check
  rw [digits0, Option.bind_some]
  simp only [bi_eq, within0, tiers0, Option.bind_some]
  rw [if_neg (by simp; omega), if_neg (by simp; omega), if_neg (by decide), if_neg (by decide), if_neg (by simp; omega), if_neg (by simp; omega), if_neg (by decide), if_neg (by decide), if_neg (by decide), if_neg (by decide), if_neg (by decide), if_neg (by decide)]
/-- A plain version as data. -/
def rowD (a d : Int) : List D := [.i a, .i 1, .i 0, .i d, .i 0, .i 0, .i 0, .i 0, .l [[.i 0, .i 5]]]
theorem mhas_set : ∀ (m : List (List Int × List Int)) (k v q : List Int), mhas (mset m k v) q = (decide (k = q) || mhas m q)
  | [], k, v, q => by
    simp only [mset, mhas, mfind]
    by_cases h : k = q
    · simp [h]
    · simp [h]
  | (k', v') :: m, k, v, q => by
    have ih := mhas_set m k v q
    simp only [mset]
    by_cases h : k' = k
    · subst h
      rw [if_pos rfl]
      simp only [mhas, mfind]
      by_cases h2 : k' = q
      · simp [h2]
      · simp [h2]
    · rw [if_neg h]
      simp only [mhas, mfind] at ih ⊢
      by_cases h2 : k' = q
      · simp [h2]
      · rw [if_neg h2, if_neg h2]; exact ih
theorem nth_app {α : Type} (x : α) (l : List α) (y : α) (i : Nat) : nth x (l ++ [y]) i = if i < l.length then nth x l i else if i = l.length then y else x := by
  rw [nth_eq, nth_eq, List.getD_eq_getElem?_getD, List.getD_eq_getElem?_getD]
  by_cases h : i < l.length
  · rw [if_pos h, List.getElem?_append_left h]
  · rw [if_neg h, List.getElem?_append_right (by omega)]
    by_cases h2 : i = l.length
    · rw [if_pos h2, h2]; simp
    · rw [if_neg h2, List.getElem?_eq_none (by simp; omega)]; rfl
/-- A list of plain versions of a product, by their days. -/
def rows (a : Int) (ds : List Int) : List (List D) := ds.map (rowD a)
theorem rows_len (a : Int) (ds : List Int) : (rows a ds).length = ds.length := by simp [rows]
theorem rows_nth (a : Int) (ds : List Int) {i : Nat} (h : i < ds.length) : nth [] (rows a ds) i = rowD a (nth 0 ds i) := by
  rw [nth_eq, nth_eq, List.getD_eq_getElem?_getD, List.getD_eq_getElem?_getD]
  simp [rows, h]
theorem clash_loop (K : Nat) {a d : Int} {ds : List Int} {m : List (List Int × List Int)} {t : List (List Int)} (hl : ds.length ≤ 1000) (hd : ∀ i, i < ds.length → nth 0 ds i ≤ d) : ∀ (k i : Nat), i ≤ ds.length → ds.length - i < k →
    F._prod_Catalogue_clash_l6 K k 0 (ds.length : Int) (i : Int) m a 1 0 d 0 0 0 0 t (rows a ds) = some (Sum.inl (0, rows a ds, m))
  | 0, i, _, hk => by omega
  | k + 1, i, hi, hk => by
    rw [F._prod_Catalogue_clash_l6]
    simp only [bi_eq, Int.toNat_natCast]
    by_cases e : i = ds.length
    · rw [if_neg (by simp; omega)]
    · have hi' : i < ds.length := by omega
      have e0 : IntKind.i64.wrap ((i : Int) + 1) = ((i + 1 : Nat) : Int) := by rw [iw (by omega) (by omega)]; omega
      rw [if_pos (by simp; omega), if_pos (by rw [rows_len]; simp; omega)]
      have n0 : (nth d0 (rowD a (nth 0 ds i)) 0).toI = a := rfl
      have n1 : (nth d0 (rowD a (nth 0 ds i)) 1).toI = 1 := rfl
      have n2 : (nth d0 (rowD a (nth 0 ds i)) 2).toI = 0 := rfl
      have n3 : (nth d0 (rowD a (nth 0 ds i)) 3).toI = nth 0 ds i := rfl
      have := hd i hi'
      simp only [rows_nth a ds hi', n0, n1, n2, n3]
      rw [if_neg (by simp), if_neg (by simp; omega), if_neg (by decide), if_neg (by decide), e0]
      exact clash_loop K hl hd k (i + 1) (by omega) (by omega)
/-- One more, of a later day. -/
theorem add_ok (k : Nat) {a d : Int} (ha : 1 ≤ a ∧ a ≤ 1000000000) (hdd : 1 ≤ d ∧ d ≤ 3652059) {ds : List Int} {m : List (List Int × List Int)} (hl : ds.length < 64) (hd : ∀ i, i < ds.length → nth 0 ds i ≤ d) (hm : mhas m [a, d] = false) :
    F._prod_Catalogue_Add (k + 100) (rows a ds) m a 1 0 d 0 0 0 0 [[0, 5]] = some (0, rows a (ds ++ [d]), mset m [a, d] [(ds.length : Int)]) := by
  have hc : F._prod_Catalogue_clash (k + 100) (rows a ds) m a 1 0 d 0 0 0 0 [[0, 5]] = some (0, rows a ds, m) := by
    have e : F._prod_Catalogue_clash_l6 (k + 100) (k + 100) 0 (((rows a ds).length : Nat) : Int) 0 m a 1 0 d 0 0 0 0 [[0, 5]] (rows a ds) = some (Sum.inl (0, rows a ds, m)) := by rw [rows_len]; exact clash_loop (k + 100) (m := m) (t := [[0, 5]]) (a := a) (d := d) (ds := ds) (by omega) hd (k + 100) 0 (by omega) (by omega)
    unfold F._prod_Catalogue_clash
    rw [hm, e]
    simp only [bi_eq, casO, Option.bind_some]
    rw [if_pos (by decide), if_neg (by rw [rows_len]; simp; omega)]
  unfold F._prod_Catalogue_Add
  rw [check0 k ha hdd, Option.bind_some]
  simp only [bi_eq]
  rw [if_neg (by decide), hc, Option.bind_some]
  simp only
  rw [if_neg (by decide), copied0, Option.bind_some]
  simp only
  rw [if_pos (by rw [rows_len]; simp; omega), rows_len]
  have : rows a (ds ++ [d]) = rows a ds ++ [rowD a d] := by simp [rows]
  rw [this]
  rfl
/-- The last day that has come. -/
def lastD (ds : List Int) (q : Int) : Nat → Int
  | 0 => 0
  | i + 1 => if nth 0 ds i ≤ q then nth 0 ds i else lastD ds q i
theorem rnd_ok (k : Nat) (i : Int) (a d q : Int) : F.At.rnd (k + 100) i (rowD a d) a q = some (if d ≤ q then .inr ([a, 1, 0, d, 0, 0, 0, 0], [[0, 5]]) else .inl ()) := by
  unfold F.At.rnd
  have n0 : (nth d0 (rowD a d) 0).toI = a := rfl
  have n3 : (nth d0 (rowD a d) 3).toI = d := rfl
  have e : F.prod_copied_ro (k + 100) (nth d0 (rowD a d) 0).toI (nth d0 (rowD a d) 1).toI (nth d0 (rowD a d) 2).toI (nth d0 (rowD a d) 3).toI (nth d0 (rowD a d) 4).toI (nth d0 (rowD a d) 5).toI (nth d0 (rowD a d) 6).toI (nth d0 (rowD a d) 7).toI (nth d0 (rowD a d) 8).toL = some (a, 1, 0, d, 0, 0, 0, 0, [[0, 5]]) := copiedro0 k a d
  rw [e, Option.bind_some, n0, n3]
  simp only [bi_eq]
  rw [if_pos (by simp)]
  by_cases h : d ≤ q
  · rw [if_pos (by simpa using h), if_pos h]
  · rw [if_neg (by simpa using h), if_neg h]
theorem scan_ok (k : Nat) {a q : Int} {ds : List Int} (h1 : ∀ i, i < ds.length → 1 ≤ nth 0 ds i) : ∀ i : Nat, i ≤ ds.length →
    F.At.scan (k + 100) (rows a ds) a q i = some (if lastD ds q i = 0 then .inl () else .inr ([a, 1, 0, lastD ds q i, 0, 0, 0, 0], [[0, 5]]))
  | 0, _ => rfl
  | i + 1, hi => by
    rw [F.At.scan, rows_nth a ds (by omega), rnd_ok, Option.bind_some]
    have := h1 i (by omega)
    by_cases h : nth 0 ds i ≤ q
    · have e : lastD ds q (i + 1) = nth 0 ds i := by rw [lastD, if_pos h]
      rw [if_pos h, e, if_neg (by omega)]
    · have e : lastD ds q (i + 1) = lastD ds q i := by rw [lastD, if_neg h]
      rw [if_neg h, e]
      exact scan_ok k h1 i (by omega)
theorem at_ok (k : Nat) {a q : Int} {ds : List Int} {m : List (List Int × List Int)} (hq : 1 ≤ q ∧ q ≤ 3652059) (hl : ds.length ≤ 1000) (h1 : ∀ i, i < ds.length → 1 ≤ nth 0 ds i) :
    F._prod_Catalogue_At (k + 100) (rows a ds) m a q = some (if lastD ds q ds.length = 0 then (([0, 0, 0, 0, 0, 0, 0, 0], []), 7, rows a ds, m) else (([a, 1, 0, lastD ds q ds.length, 0, 0, 0, 0], [[0, 5]]), 0, rows a ds, m)) := by
  unfold F._prod_Catalogue_At
  simp only [bi_eq, rows_len]
  rw [if_neg (by simp; omega), if_neg (by simp; omega), if_pos (by simp; omega), scan_ok k h1 ds.length (Nat.le_refl _)]
  by_cases h : lastD ds q ds.length = 0
  · rw [if_pos h, if_pos h]; rfl
  · rw [if_neg h, if_neg h]; rfl
/-- The days, one behind the other. -/
def dyS (l : List Int) : Nat → Int
  | 0 => 0
  | i + 1 => dyS l i + 1 + nth 0 l i % 100
def dysL (l : List Int) (i : Nat) : List Int := (List.range i).map fun j => dyS l (j + 1)
theorem dysL_len (l : List Int) (i : Nat) : (dysL l i).length = i := by simp [dysL]
theorem dysL_nth (l : List Int) {i j : Nat} (h : j < i) : nth 0 (dysL l i) j = dyS l (j + 1) := by
  rw [nth_eq, List.getD_eq_getElem?_getD]; simp [dysL, h]
theorem dysL_succ (l : List Int) (i : Nat) : dysL l (i + 1) = dysL l i ++ [dyS l (i + 1)] := by simp [dysL, List.range_succ]
theorem dyS_bd (l : List Int) : ∀ i : Nat, (i : Int) ≤ dyS l i ∧ dyS l i ≤ 100 * i
  | 0 => by simp [dyS]
  | i + 1 => by
    have := dyS_bd l i
    simp only [dyS]
    omega
theorem dyS_mono (l : List Int) : ∀ (i j : Nat), i ≤ j → dyS l i ≤ dyS l j
  | i, 0, h => by rw [show i = 0 by omega]; omega
  | i, j + 1, h => by
    by_cases e : i = j + 1
    · rw [e]; omega
    · have := dyS_mono l i j (by omega)
      simp only [dyS]
      omega
theorem lastD_app (ds : List Int) (x q : Int) : ∀ i : Nat, i ≤ ds.length → lastD (ds ++ [x]) q i = lastD ds q i
  | 0, _ => rfl
  | i + 1, h => by
    have e : nth 0 (ds ++ [x]) i = nth 0 ds i := by rw [nth_app, if_pos (by omega)]
    simp only [lastD, e, lastD_app ds x q i (by omega)]
theorem lastD_succ (l : List Int) (q : Int) (i : Nat) : lastD (dysL l (i + 1)) q (i + 1) = if dyS l (i + 1) ≤ q then dyS l (i + 1) else lastD (dysL l i) q i := by
  rw [lastD, dysL_nth l (by omega), dysL_succ, lastD_app _ _ _ _ (by rw [dysL_len]; omega)]
theorem holds_loop {k : Nat} {x1 : Int} {l : List Int} (hx : 0 ≤ x1 ∧ x1 ≤ 65535) (hl : l.length ≤ 9223372036854775807) (hw : ∀ y ∈ l, 0 ≤ y ∧ y ≤ 65535) : ∀ (f i : Nat) (m : List (List Int × List Int)), i ≤ l.length → i ≤ 60 → 61 - i < f → (∀ x, dyS l i < x → mhas m [3, x] = false) →
    ∃ n m', n ≤ 60 ∧ F.law12_ProdHolds_l6 (k + 100) f x1 (lastD (dysL l i) (1 + x1) i) (dyS l i) l (l.length : Int) (i : Int) (rows 3 (dysL l i)) m = some (Sum.inl (x1, lastD (dysL l n) (1 + x1) n, rows 3 (dysL l n), m'))
  | 0, i, m, _, _, hf, _ => by omega
  | f + 1, i, m, hi, hi6, hf, hm => by
    rw [F.law12_ProdHolds_l6]
    simp only [bi_eq, Int.toNat_natCast]
    by_cases e : i = l.length
    · rw [if_neg (by simp; omega)]
      exact ⟨i, m, hi6, rfl⟩
    rw [if_pos (by simp; omega), if_pos (by simp; omega)]
    by_cases e6 : i = 60
    · rw [if_pos (by simp; omega)]
      exact ⟨i, m, hi6, rfl⟩
    have hi' : i < l.length := by omega
    have hy : 0 ≤ nth 0 l i ∧ nth 0 l i ≤ 65535 := hw _ (by rw [nth_eq, List.getD_eq_getElem?_getD, List.getElem?_eq_getElem hi']; exact List.getElem_mem _)
    have hb := dyS_bd l i
    have em : (nth 0 l i).tmod 100 = nth 0 l i % 100 := by rw [Int.tmod_eq_emod_of_nonneg hy.1]
    have e1 : IntKind.i64.wrap (dyS l i + IntKind.i64.wrap (1 + IntKind.i64.wrap ((nth 0 l i).tmod 100))) = dyS l (i + 1) := by
      rw [em, iw (x := nth 0 l i % 100) (by omega) (by omega), iw (x := 1 + nth 0 l i % 100) (by omega) (by omega), iw (by omega) (by omega), dyS]; omega
    have e2 : IntKind.i64.wrap (1 + IntKind.i64.wrap x1) = 1 + x1 := by rw [iw (x := x1) (by omega) (by omega), iw (by omega) (by omega)]
    have e3 : IntKind.i64.wrap ((i : Int) + 1) = ((i + 1 : Nat) : Int) := by rw [iw (by omega) (by omega)]; omega
    have hb1 := dyS_bd l (i + 1)
    rw [if_neg (by simp; omega)]
    simp only [e1, e2, e3, plain_ok, Option.bind_some]
    have lt1 : dyS l i < dyS l (i + 1) := by rw [dyS]; omega
    rw [add_ok k (a := 3) (d := dyS l (i + 1)) (by decide) ⟨by omega, by omega⟩ (ds := dysL l i) (m := m) (by rw [dysL_len]; omega) (fun j hj => by rw [dysL_len] at hj; rw [dysL_nth l hj]; exact dyS_mono l _ _ (by omega)) (hm _ lt1), Option.bind_some]
    simp only
    rw [if_neg (by decide), ← dysL_succ]
    have hm' : ∀ x, dyS l (i + 1) < x → mhas (mset m [3, dyS l (i + 1)] [((dysL l i).length : Int)]) [3, x] = false := fun x hx => by
      rw [mhas_set, hm x (by omega), Bool.or_false]
      simp; omega
    have ih := holds_loop (k := k) hx hl hw f (i + 1) _ (by omega) (by omega) (by omega) hm'
    rw [lastD_succ] at ih
    by_cases c : dyS l (i + 1) ≤ 1 + x1
    · rw [if_pos c] at ih
      rw [if_pos (by simpa using c)]
      exact ih
    · rw [if_neg c] at ih
      rw [if_neg (by simpa using c)]
      exact ih
theorem ProdHolds {k : Nat} {x1 : Int} {l : List Int} (hx : 0 ≤ x1 ∧ x1 ≤ 65535) (hl : l.length ≤ 9223372036854775807) (hw : ∀ y ∈ l, 0 ≤ y ∧ y ≤ 65535) : F.law12_ProdHolds (k + 100) l x1 = some true := by
  obtain ⟨n, m', hn, h⟩ := holds_loop (k := k) hx hl hw (k + 100) 0 [] (by omega) (by omega) (by omega) (fun _ _ => rfl)
  have h : F.law12_ProdHolds_l6 (k + 100) (k + 100) x1 0 0 l (l.length : Int) 0 [] [] = _ := h
  have e2 : IntKind.i64.wrap (1 + IntKind.i64.wrap x1) = 1 + x1 := by rw [iw (x := x1) (by omega) (by omega), iw (by omega) (by omega)]
  have hN : F.prod_New (k + 100) = some ([], []) := rfl
  unfold F.law12_ProdHolds
  rw [awake12, Option.bind_some, hN, Option.bind_some]
  simp only [bi_eq]
  rw [if_neg (by decide), h]
  simp only [casO, Option.bind_some, e2]
  have hat := at_ok k (a := 3) (q := 1 + x1) (ds := dysL l n) (m := m') ⟨by omega, by omega⟩ (by rw [dysL_len]; omega) (fun i hi => by rw [dysL_len] at hi; rw [dysL_nth l hi]; have := dyS_bd l (i + 1); omega)
  rw [hat, Option.bind_some, dysL_len]
  by_cases c : lastD (dysL l n) (1 + x1) n = 0
  · rw [if_pos c, c]
    rfl
  · rw [if_neg c, if_neg (by simpa using c)]
    simp [nth]
namespace L
theorem ProdHolds {l : List Int} {a : Int} (w0 : l.length ≤ maxLen ∧ ∀ y ∈ l, (Lit.int .u16 y).wf = true) (w1 : (Lit.int .u16 a).wf = true) : F.law12_ProdHolds 100000 l a = some true :=
  Wide.ProdHolds (k := 99900) (by simp [Lit.wf, IntKind.min, IntKind.max, IntKind.signed, IntKind.bits] at w1; omega) (Nat.le_trans w0.1 (by decide)) fun y hy => by
    have := w0.2 y hy
    simp [Lit.wf, IntKind.min, IntKind.max, IntKind.signed, IntKind.bits] at this; omega
end L
end Go.Proofs.Ytmmaechogibodaa.Wide

namespace Go.Proofs.Ytmmaechogibodaa.Wide
open Go Go.RowKit Go.Proofs.Ytmmaechogibodaa.Vm
theorem pwithin_ok (K : Nat) (n m : Int) : F.prod_within K n m = some (decide (0 ≤ n ∧ n ≤ m)) := by
  unfold F.prod_within
  rw [bi_eq]
  by_cases c : n ≥ 0 <;> simp [c]
/-- A tier: from which amount on, at which rate. -/
abbrev fr (q : List (List Int)) (i : Nat) : Int := nth 0 (nth [] q i) 0
abbrev rt (q : List (List Int)) (i : Nat) : Int := nth 0 (nth [] q i) 1
/-- A tier that may not stand there. -/
def TB (q : List (List Int)) (i : Nat) : Prop := (0 < i ∧ fr q i ≤ fr q (i - 1)) ∨ 10000000000000 < fr q i ∨ rt q i < 0 ∨ 1000000000 < rt q i
instance (q : List (List Int)) (i : Nat) : Decidable (TB q i) := by unfold TB; infer_instance
theorem tiers_step {K k : Nat} {q : List (List Int)} (hq : q.length ≤ 1000) {i : Nat} (hi : i < q.length) : F.prod_Tiers_l6 K (k + 1) q q (q.length : Int) (i : Int) = if TB q i then some (.inr 3) else F.prod_Tiers_l6 K k q q (q.length : Int) ((i + 1 : Nat) : Int) := by
  rw [F.prod_Tiers_l6]
  have c1 : (i : Int) < (q.length : Int) := by omega
  have w1 : IntKind.i64.wrap ((i : Int) + 1) = ((i + 1 : Nat) : Int) := by rw [iw (by omega) (by omega)]; omega
  simp only [bi_eq, pwithin_ok, Option.bind_some, w1, Int.toNat_natCast]
  unfold TB
  by_cases c0 : 0 < i
  · have c0' : (i : Int) > 0 := by omega
    have w2 : IntKind.i64.wrap ((i : Int) - 1) = ((i - 1 : Nat) : Int) := by rw [iw (by omega) (by omega)]; omega
    have c2 : ((i - 1 : Nat) : Int) < (q.length : Int) := by omega
    simp only [w2, Int.toNat_natCast]
    by_cases d1 : nth 0 (nth [] q i) 0 ≤ nth 0 (nth [] q (i - 1)) 0
    · simp [c0, c0', c1, c2, d1]
    · by_cases d2 : nth 0 (nth [] q i) 0 > 10000000000000
      · have d2' : 10000000000000 < nth 0 (nth [] q i) 0 := d2
        simp [c0, c0', c1, c2, d1, d2']
      · have d2' : ¬ 10000000000000 < nth 0 (nth [] q i) 0 := d2
        by_cases d3 : 0 ≤ nth 0 (nth [] q i) 1 ∧ nth 0 (nth [] q i) 1 ≤ 1000000000
        · have d4 : ¬ (nth 0 (nth [] q i) 1 < 0) := by omega
          have d5 : ¬ (1000000000 < nth 0 (nth [] q i) 1) := by omega
          simp [c0, c0', c1, c2, d1, d2', d3, d4, d5]
        · have d4 : nth 0 (nth [] q i) 1 < 0 ∨ 1000000000 < nth 0 (nth [] q i) 1 := by omega
          simp [c0, c0', c1, c2, d1, d2', d3, d4]
  · have c0' : ¬ (i : Int) > 0 := by omega
    by_cases d2 : nth 0 (nth [] q i) 0 > 10000000000000
    · have d2' : 10000000000000 < nth 0 (nth [] q i) 0 := d2
      simp [c0, c0', c1, d2']
    · have d2' : ¬ 10000000000000 < nth 0 (nth [] q i) 0 := d2
      by_cases d3 : 0 ≤ nth 0 (nth [] q i) 1 ∧ nth 0 (nth [] q i) 1 ≤ 1000000000
      · have d4 : ¬ (nth 0 (nth [] q i) 1 < 0) := by omega
        have d5 : ¬ (1000000000 < nth 0 (nth [] q i) 1) := by omega
        simp [c0, c0', c1, d2', d3, d4, d5]
      · have d4 : nth 0 (nth [] q i) 1 < 0 ∨ 1000000000 < nth 0 (nth [] q i) 1 := by omega
        simp [c0, c0', c1, d2', d3, d4]
/-- Tiers in form. -/
def Tok (q : List (List Int)) : Prop := 0 < q.length ∧ q.length ≤ 8 ∧ fr q 0 = 0 ∧ ∀ i, i < q.length → ¬ TB q i
theorem tiers_loop {K : Nat} {q : List (List Int)} (hq : q.length ≤ 1000) : ∀ (k i : Nat), i ≤ q.length → q.length - i < k → ((∀ j, i ≤ j → j < q.length → ¬ TB q j) → F.prod_Tiers_l6 K k q q (q.length : Int) (i : Int) = some (.inl ())) ∧
    ((∃ j, i ≤ j ∧ j < q.length ∧ TB q j) → F.prod_Tiers_l6 K k q q (q.length : Int) (i : Int) = some (.inr 3))
  | 0, i, _, h => by omega
  | k + 1, i, hi, h => by
    by_cases c : i < q.length
    · have ih := tiers_loop (K := K) hq k (i + 1) (by omega) (by omega)
      rw [tiers_step hq c]
      constructor
      · intro hn
        rw [if_neg (hn i (Nat.le_refl _) c)]
        exact ih.1 fun j h1 h2 => hn j (by omega) h2
      · rintro ⟨j, h1, h2, h3⟩
        by_cases t : TB q i
        · rw [if_pos t]
        · rw [if_neg t]
          have : j ≠ i := fun e => t (e ▸ h3)
          exact ih.2 ⟨j, by omega, h2, h3⟩
    · constructor
      · intro _
        rw [F.prod_Tiers_l6, bi_eq, if_neg (by simp; omega)]
      · rintro ⟨j, h1, h2, _⟩; omega
theorem tiers_ok (K : Nat) (hK : 100 ≤ K) (q : List (List Int)) (h : Tok q) : F.prod_Tiers K q = some 0 := by
  obtain ⟨h1, h2, h3, h4⟩ := h
  have key := (tiers_loop (K := K) (q := q) (by omega) K 0 (by omega) (by omega)).1 fun j _ hj => h4 j hj
  have key' : F.prod_Tiers_l6 K K q q (q.length : Int) 0 = some (.inl ()) := key
  unfold F.prod_Tiers
  have h3' : nth 0 (nth [] q 0) 0 = 0 := h3
  have a1 : ¬ 8 < q.length := by omega
  have a2 : ¬ q = [] := by intro e; subst e; simp at h1
  simp only [bi_eq, key', h3']
  rw [if_neg (by simp; omega), if_neg (by simpa using a2), if_pos (by simpa using h1), if_neg (by decide)]
  rfl
/-- The code of tiers. -/
theorem tiers_bad (K : Nat) (hK : 100 ≤ K) (q : List (List Int)) (h : ¬ Tok q) : F.prod_Tiers K q = some (if 8 < q.length then 2 else 3) := by
  unfold F.prod_Tiers
  simp only [bi_eq]
  by_cases a1 : 8 < q.length
  · rw [if_pos (by simp; omega), if_pos a1]
  · rw [if_neg (by simp; omega), if_neg a1]
    by_cases a2 : q = []
    · subst a2; rfl
    · have a3 : 0 < q.length := by cases q with | nil => exact absurd rfl a2 | cons x l => simp
      rw [if_neg (by simpa using a2), if_pos (by simpa using a3)]
      by_cases a4 : nth 0 (nth [] q 0) 0 = 0
      · have hex : ∃ j, 0 ≤ j ∧ j < q.length ∧ TB q j := by
          by_cases g : ∃ j, 0 ≤ j ∧ j < q.length ∧ TB q j
          · exact g
          · exact absurd ⟨a3, by omega, a4, fun i hi ht => g ⟨i, by omega, hi, ht⟩⟩ h
        have key := (tiers_loop (K := K) (q := q) (by omega) K 0 (by omega) (by omega)).2 hex
        have key' : F.prod_Tiers_l6 K K q q (q.length : Int) 0 = some (.inr 3) := key
        rw [if_neg (by simpa using a4), key']; rfl
      · rw [if_pos (by simpa using a4)]
instance (q : List (List Int)) : Decidable (Tok q) := by unfold Tok; infer_instance
def zc (q : List (List Int)) : Int := if Tok q then 0 else if 8 < q.length then 2 else 3
theorem zc_two (q : List (List Int)) : zc q = 0 ∨ 2 ≤ zc q := by unfold zc; split <;> (try split) <;> omega
theorem zc_zero {q : List (List Int)} : zc q = 0 ↔ Tok q := by
  unfold zc
  by_cases h : Tok q
  · simp [h]
  · rw [if_neg h]; constructor
    · intro g; split at g <;> omega
    · intro g; exact (h g).elim
theorem tiers_val {K : Nat} (hK : 100 ≤ K) (q : List (List Int)) : F.prod_Tiers K q = some (zc q) := by
  unfold zc
  by_cases h : Tok q
  · rw [if_pos h, tiers_ok K hK q h]
  · rw [if_neg h, tiers_bad K hK q h]
/-- What the reference refuses in a tier. -/
def RB (q : List (List Int)) (i : Nat) : Prop := (i = 0 ∧ fr q 0 ≠ 0) ∨ TB q i
instance (q : List (List Int)) (i : Nat) : Decidable (RB q i) := by unfold RB; infer_instance
def before (q : List (List Int)) (i : Nat) : Int := if i = 0 then -1 else fr q (i - 1)
theorem rtier_step {K k : Nat} {q : List (List Int)} (hq : q.length ≤ 1000) {i : Nat} (hi : i < q.length) : F.ref12_Tiers_l5 K (k + 1) q (before q i) q (q.length : Int) (i : Int) = if RB q i then some (.inr 3) else F.ref12_Tiers_l5 K k q (before q (i + 1)) q (q.length : Int) ((i + 1 : Nat) : Int) := by
  rw [F.ref12_Tiers_l5]
  have w1 : IntKind.i64.wrap ((i : Int) + 1) = ((i + 1 : Nat) : Int) := by rw [iw (by omega) (by omega)]; omega
  simp only [bi_eq, w1, Int.toNat_natCast]
  rw [if_pos (by simp; omega), if_pos (by simp; omega)]
  have bs : before q (i + 1) = nth 0 (nth [] q i) 0 := by unfold before; rw [if_neg (by omega)]; rfl
  rw [bs]
  unfold before
  by_cases c0 : i = 0
  · subst c0
    rw [if_pos (by decide)]
    have R0 : RB q 0 ↔ (nth 0 (nth [] q 0) 0 ≠ 0 ∨ nth 0 (nth [] q 0) 1 < 0 ∨ 1000000000 < nth 0 (nth [] q 0) 1) := by unfold RB TB fr rt; omega
    by_cases a1 : nth 0 (nth [] q 0) 0 = 0
    · rw [if_neg (show ¬ ((nth 0 (nth [] q 0) 0 != 0) = true) by simpa using a1), if_neg (by simp; omega), if_neg (by simp; omega)]
      by_cases a2 : nth 0 (nth [] q 0) 1 < 0
      · rw [if_pos (by simpa using a2), if_pos (R0.2 (by omega))]
      · rw [if_neg (by simpa using a2)]
        by_cases a3 : nth 0 (nth [] q 0) 1 > 1000000000
        · rw [if_pos (by simpa using a3), if_pos (R0.2 (by omega))]
        · rw [if_neg (by simpa using a3), if_neg (fun h => by have := R0.1 h; omega)]
    · rw [if_pos (by simpa using a1), if_pos (R0.2 (by omega))]
  · rw [if_neg (by simp; omega)]
    simp only [if_neg c0]
    have R1 : RB q i ↔ (nth 0 (nth [] q i) 0 ≤ nth 0 (nth [] q (i - 1)) 0 ∨ 10000000000000 < nth 0 (nth [] q i) 0 ∨ nth 0 (nth [] q i) 1 < 0 ∨ 1000000000 < nth 0 (nth [] q i) 1) := by unfold RB TB fr rt; omega
    by_cases a1 : nth 0 (nth [] q i) 0 ≤ nth 0 (nth [] q (i - 1)) 0
    · rw [if_pos (by simpa using a1), if_pos (R1.2 (by omega))]
    · rw [if_neg (by simpa using a1)]
      by_cases a4 : nth 0 (nth [] q i) 0 > 10000000000000
      · rw [if_pos (by simpa using a4), if_pos (R1.2 (by omega))]
      · rw [if_neg (by simpa using a4)]
        by_cases a2 : nth 0 (nth [] q i) 1 < 0
        · rw [if_pos (by simpa using a2), if_pos (R1.2 (by omega))]
        · rw [if_neg (by simpa using a2)]
          by_cases a3 : nth 0 (nth [] q i) 1 > 1000000000
          · rw [if_pos (by simpa using a3), if_pos (R1.2 (by omega))]
          · rw [if_neg (by simpa using a3), if_neg (fun h => by have := R1.1 h; omega)]
theorem rtiers_loop {K : Nat} {q : List (List Int)} (hq : q.length ≤ 1000) : ∀ (k i : Nat), i ≤ q.length → q.length - i < k → ((∀ j, i ≤ j → j < q.length → ¬ RB q j) → F.ref12_Tiers_l5 K k q (before q i) q (q.length : Int) (i : Int) = some (.inl q)) ∧
    ((∃ j, i ≤ j ∧ j < q.length ∧ RB q j) → F.ref12_Tiers_l5 K k q (before q i) q (q.length : Int) (i : Int) = some (.inr 3))
  | 0, i, _, h => by omega
  | k + 1, i, hi, h => by
    by_cases c : i < q.length
    · have ih := rtiers_loop (K := K) hq k (i + 1) (by omega) (by omega)
      rw [rtier_step hq c]
      constructor
      · intro hn
        rw [if_neg (hn i (Nat.le_refl _) c)]
        exact ih.1 fun j h1 h2 => hn j (by omega) h2
      · rintro ⟨j, h1, h2, h3⟩
        by_cases t : RB q i
        · rw [if_pos t]
        · rw [if_neg t]
          have : j ≠ i := fun e => t (e ▸ h3)
          exact ih.2 ⟨j, by omega, h2, h3⟩
    · constructor
      · intro _
        rw [F.ref12_Tiers_l5, bi_eq, if_neg (by simp; omega)]
      · rintro ⟨j, h1, h2, _⟩; omega
theorem rtiers_val {K : Nat} (hK : 100 ≤ K) (q : List (List Int)) : F.ref12_Tiers K q = some (zc q) := by
  unfold F.ref12_Tiers zc
  simp only [bi_eq]
  by_cases a1 : 8 < q.length
  · rw [if_pos (by simp; omega), if_neg (fun h : Tok q => by have := h.2.1; omega), if_pos a1]
  · rw [if_neg (by simp; omega)]
    have lo := rtiers_loop (K := K) (q := q) (by omega) K 0 (by omega) (by omega)
    have b0 : before q 0 = -1 := rfl
    rw [b0] at lo
    by_cases t : Tok q
    · rw [if_pos t]
      have nb : ∀ j, 0 ≤ j → j < q.length → ¬ RB q j := fun j _ hj hb => by
        rcases hb with ⟨e, h⟩ | h
        · exact h t.2.2.1
        · exact t.2.2.2 j hj h
      have e := lo.1 nb
      have e' : F.ref12_Tiers_l5 K K q (-1) q (q.length : Int) 0 = some (.inl q) := e
      rw [e']
      simp only [casO, Option.bind_some]
      rw [if_neg (by have := t.1; simp; intro g; rw [g] at this; simp at this)]
    · rw [if_neg t, if_neg a1]
      by_cases e0 : q.length = 0
      · have nb : ∀ j, 0 ≤ j → j < q.length → ¬ RB q j := fun j _ hj => by omega
        have e' : F.ref12_Tiers_l5 K K q (-1) q (q.length : Int) 0 = some (.inl q) := lo.1 nb
        rw [e']
        simp only [casO, Option.bind_some]
        rw [if_pos (by simp [e0])]
      · have ex : ∃ j, 0 ≤ j ∧ j < q.length ∧ RB q j := by
          apply Classical.byContradiction
          intro hn
          apply t
          refine ⟨by omega, by omega, ?_, fun i hi hb => hn ⟨i, by omega, hi, .inr hb⟩⟩
          apply Classical.byContradiction
          intro h0
          exact hn ⟨0, by omega, by omega, .inl ⟨rfl, h0⟩⟩
        have e' : F.ref12_Tiers_l5 K K q (-1) q (q.length : Int) 0 = some (.inr 3) := lo.2 ex
        rw [e']
        rfl
/-- What a version by itself may not have. -/
def CkBad (a kd cu dy bs md fe li : Int) : Prop := a < 1 ∨ 1000000000 < a ∨ kd < 1 ∨ 2 < kd ∨ cu < 0 ∨ 3 < cu ∨ dy < 1 ∨ 3652059 < dy ∨ bs < 0 ∨ 3 < bs ∨ md < 0 ∨ 6 < md ∨ fe < 0 ∨ 10000000000000 < fe ∨ li < 0 ∨ 10000000000000 < li
instance (a kd cu dy bs md fe li : Int) : Decidable (CkBad a kd cu dy bs md fe li) := by unfold CkBad; infer_instance
def ck (a kd cu dy bs md fe li : Int) (q : List (List Int)) : Int := if CkBad a kd cu dy bs md fe li then 1 else zc q
theorem ck_step {c : Bool} {rest : Option Int} {B : Prop} [Decidable B] {z : Int} (h1 : c = true → B) (h2 : c = false → rest = some (if B then 1 else z)) : bi c (some 1) rest = some (if B then 1 else z) := by
  cases c with
  | true => rw [bi_eq, if_pos rfl, if_pos (h1 rfl)]
  | false => rw [bi_eq, if_neg (by decide)]; exact h2 rfl
theorem digits_val (K : Nat) (cu : Int) : ∃ x, F.money_Digits K cu = some (x, if 0 ≤ cu ∧ cu ≤ 3 then 0 else 1) := by
  by_cases h0 : cu = 0
  · subst h0; exact ⟨2, by kernel_rfl⟩
  by_cases h1 : cu = 1
  · subst h1; exact ⟨2, by kernel_rfl⟩
  by_cases h2 : cu = 2
  · subst h2; exact ⟨0, by kernel_rfl⟩
  by_cases h3 : cu = 3
  · subst h3; exact ⟨3, by kernel_rfl⟩
  refine ⟨0, ?_⟩
  unfold F.money_Digits F.money_name F.money_figures
  simp only [bi_eq]
  rw [if_neg (by simpa using h0), if_neg (by simpa using h1), if_neg (by simpa using h2), if_neg (by simpa using h3), if_neg (show ¬ (0 ≤ cu ∧ cu ≤ 3) by omega), Option.bind_some]
  rw [if_pos (by kernel_rfl)]
theorem check_val {K : Nat} (hK : 100 ≤ K) (a kd cu dy bs md fe li : Int) (q : List (List Int)) : F.prod_Check K a kd cu dy bs md fe li q = some (ck a kd cu dy bs md fe li q) := by
  obtain ⟨x, hx⟩ := digits_val K cu
  unfold F.prod_Check ck
  rw [hx, Option.bind_some]
  refine ck_step (fun h => by simp at h; unfold CkBad; omega) fun h1 => ?_
  refine ck_step (fun h => by simp at h; unfold CkBad; omega) fun h2 => ?_
  have fin : ∀ (h3 : ¬ (kd < 1 ∨ 2 < kd)), (bi ((if 0 ≤ cu ∧ cu ≤ 3 then (0 : Int) else 1) != 0) (some 1) (bi (decide (dy < 1)) (some 1) (bi (decide (dy > 3652059)) (some 1) (bi (decide (bs < 0)) (some 1) (bi (decide (bs > 3)) (some 1) (bi (decide (md < 0)) (some 1) (bi (decide (md > 6)) (some 1)
      ((F.prod_within K fe 10000000000000).bind fun r1 => bi (!r1) (some 1) ((F.prod_within K li 10000000000000).bind fun r2 => bi (!r2) (some 1) ((F.prod_Tiers K q).bind fun r3 => some r3)))))))))) = some (if CkBad a kd cu dy bs md fe li then 1 else zc q) := fun h3 => by
    refine ck_step (fun h => by by_cases c : 0 ≤ cu ∧ cu ≤ 3 <;> simp [c] at h; unfold CkBad; omega) fun h4 => ?_
    refine ck_step (fun h => by simp at h; unfold CkBad; omega) fun h5 => ?_
    refine ck_step (fun h => by simp at h; unfold CkBad; omega) fun h6 => ?_
    refine ck_step (fun h => by simp at h; unfold CkBad; omega) fun h7 => ?_
    refine ck_step (fun h => by simp at h; unfold CkBad; omega) fun h8 => ?_
    refine ck_step (fun h => by simp at h; unfold CkBad; omega) fun h9 => ?_
    refine ck_step (fun h => by simp at h; unfold CkBad; omega) fun h10 => ?_
    rw [pwithin_ok, Option.bind_some]
    refine ck_step (fun h => by simp at h; unfold CkBad; omega) fun h11 => ?_
    rw [pwithin_ok, Option.bind_some]
    refine ck_step (fun h => by simp at h; unfold CkBad; omega) fun h12 => ?_
    rw [tiers_val hK, Option.bind_some, if_neg]
    have h4 : 0 ≤ cu ∧ cu ≤ 3 := by
      by_cases c : 0 ≤ cu ∧ cu ≤ 3
      · exact c
      · rw [if_neg c] at h4; cases h4
    simp at h1 h2 h5 h6 h7 h8 h9 h10 h11 h12
    unfold CkBad
    omega
  rw [bi_eq]
  split
  · rename_i h
    refine ck_step (fun h' => by simp at h h'; unfold CkBad; omega) fun h3 => ?_
    exact fin (by simp at h h3; omega)
  · rename_i h
    exact fin (by simp at h; omega)
theorem rcur_ok (K : Nat) (x : Int) : F.ref05_Cur K x = some (decide (0 ≤ x ∧ x ≤ 3)) := by
  unfold F.ref05_Cur
  rw [bi_eq]
  by_cases c : x ≥ 0
  · rw [if_pos (by simpa using c)]; congr 1; exact decide_eq_decide.2 (by omega)
  · rw [if_neg (by simpa using c)]; congr 1; simp only [Bool.false_eq, decide_eq_false_iff_not]; omega
theorem ris_ok (K : Nat) (x : Int) : F.ref03_Is K x = some (decide (1 ≤ x ∧ x ≤ 3652059)) := by
  unfold F.ref03_Is
  rw [bi_eq]
  by_cases c : x ≥ 1
  · rw [if_pos (by simpa using c)]; congr 1; exact decide_eq_decide.2 (by omega)
  · rw [if_neg (by simpa using c)]; congr 1; simp only [Bool.false_eq, decide_eq_false_iff_not]; omega
theorem rcheck_val {K : Nat} (hK : 100 ≤ K) (a kd cu dy bs md fe li : Int) (q : List (List Int)) : F.ref12_Check K a kd cu dy bs md fe li q = some (ck a kd cu dy bs md fe li q) := by
  unfold F.ref12_Check ck
  refine ck_step (fun h => by simp at h; unfold CkBad; omega) fun h1 => ?_
  refine ck_step (fun h => by simp at h; unfold CkBad; omega) fun h2 => ?_
  refine ck_step (fun h => by simp at h; unfold CkBad; omega) fun h3 => ?_
  refine ck_step (fun h => by simp at h; unfold CkBad; omega) fun h4 => ?_
  rw [rcur_ok, Option.bind_some]
  refine ck_step (fun h => by simp at h; unfold CkBad; omega) fun h5 => ?_
  rw [ris_ok, Option.bind_some]
  refine ck_step (fun h => by simp at h; unfold CkBad; omega) fun h6 => ?_
  refine ck_step (fun h => by simp at h; unfold CkBad; omega) fun h7 => ?_
  refine ck_step (fun h => by simp at h; unfold CkBad; omega) fun h8 => ?_
  refine ck_step (fun h => by simp at h; unfold CkBad; omega) fun h9 => ?_
  refine ck_step (fun h => by simp at h; unfold CkBad; omega) fun h10 => ?_
  refine ck_step (fun h => by simp at h; unfold CkBad; omega) fun h11 => ?_
  refine ck_step (fun h => by simp at h; unfold CkBad; omega) fun h12 => ?_
  refine ck_step (fun h => by simp at h; unfold CkBad; omega) fun h13 => ?_
  refine ck_step (fun h => by simp at h; unfold CkBad; omega) fun h14 => ?_
  rw [rtiers_val hK, Option.bind_some, if_neg]
  simp at h1 h2 h3 h4 h5 h6 h7 h8 h9 h10 h11 h12 h13 h14
  unfold CkBad
  omega
theorem of_ok (K : Nat) (a kd cu dy bs md fe li : Int) {q : List (List Int)} (hq : q.length * 16 ≤ reachBytes) : F.law12_of K a kd cu dy bs md fe li q = some (a, kd, cu, dy, bs, md, fe, li, q) := by
  have hr : reachBytes = 140737488351232 := rfl
  unfold F.law12_of
  simp only [bi_eq]
  rw [if_pos (by simp; omega), if_pos (by simp; omega), if_pos (by simp; omega)]
  simp
theorem addnil_val {K : Nat} (hK : 100 ≤ K) (a kd cu dy bs md fe li : Int) (q : List (List Int)) : F._prod_Catalogue_Add_ro K a kd cu dy bs md fe li q = some (if ck a kd cu dy bs md fe li q = 0 then 7 else ck a kd cu dy bs md fe li q) := by
  unfold F._prod_Catalogue_Add_ro
  rw [check_val hK, Option.bind_some, bi_eq]
  by_cases h : ck a kd cu dy bs md fe li q = 0
  · rw [if_neg (by simpa using h), if_pos h]
  · rw [if_pos (by simpa using h), if_neg h]
theorem atnil_val (k : Nat) (id d : Int) : ∃ f, F._prod_Catalogue_At_ro (k + 100) id d = some (0, 0, 0, 0, 0, 0, 0, 0, [], f) ∧ F.ref12_DocAt (k + 100) (D.l []).toL id d = some (0, 0, 0, 0, 0, 0, 0, 0, [], f) := by
  have hl : F.ref12_DocAt_l5 (k + 100) (k + 100) (D.l (D.l []).toL).toL id d (-1) (D.l (D.l []).toL).toL (((D.l []).toL.length : Nat) : Int) 0 0 0 0 0 0 0 0 0 [] = some ([], -1, 0, 0, 0, 0, 0, 0, 0, 0, []) := rfl
  unfold F._prod_Catalogue_At_ro F.ref12_DocAt
  rw [ris_ok, Option.bind_some, hl, Option.bind_some]
  simp only [bi_eq]
  by_cases h1 : d < 1
  · exact ⟨1, by rw [if_pos (by simpa using h1)], by rw [if_pos (by simp; omega)]; rfl⟩
  · by_cases h2 : d > 3652059
    · exact ⟨1, by rw [if_neg (by simpa using h1), if_pos (by simpa using h2)], by rw [if_pos (by simp; omega)]; rfl⟩
    · exact ⟨7, by rw [if_neg (by simpa using h1), if_neg (by simpa using h2)], by rw [if_neg (by simp; omega), if_pos (by decide)]; rfl⟩
theorem ProdNil {k : Nat} (a kd cu dy bs md fe li : Int) {q : List (List Int)} (hq : q.length * 16 ≤ reachBytes) (id d : Int) : F.law12_ProdNil (k + 100) a kd cu dy bs md fe li q id d = some true := by
  obtain ⟨f, h1, h2⟩ := atnil_val k id d
  have hs : F.ref12_Same (k + 100) 0 0 0 0 0 0 0 0 [] 0 0 0 0 0 0 0 0 [] = some true := rfl
  have hb : F.law12_back (k + 100) 0 0 0 0 0 0 0 0 [] = some (0, 0, 0, 0, 0, 0, 0, 0, []) := rfl
  have hl : F._prod_Catalogue_List_ro (k + 100) = some [] := rfl
  unfold F.law12_ProdNil
  rw [of_ok _ a kd cu dy bs md fe li hq, Option.bind_some]
  simp only
  rw [addnil_val (by omega), Option.bind_some, h1, Option.bind_some, h2, Option.bind_some, rcheck_val (by omega), Option.bind_some]
  simp only [awake12, hb, hs, hl, Option.bind_some, bi_eq]
  by_cases h : ck a kd cu dy bs md fe li q = 0
  · simp [h]
  · simp [h]
namespace L
theorem ProdNil {a kd cu dy bs md fe li id d : Int} {q : List (List Int)} (w0 : (Lit.int .i64 a).wf = true) (w1 : (Lit.int .i64 kd).wf = true) (w2 : (Lit.int .i64 cu).wf = true) (w3 : (Lit.int .i64 dy).wf = true) (w4 : (Lit.int .i64 bs).wf = true) (w5 : (Lit.int .i64 md).wf = true) (w6 : (Lit.int .i64 fe).wf = true) (w7 : (Lit.int .i64 li).wf = true)
    (w8 : q.length ≤ maxLen ∧ ∀ r ∈ q, KsOk [.i64, .i64] r) (w9 : (Lit.int .i64 id).wf = true) (w10 : (Lit.int .i64 d).wf = true) (hq : UFit reachBytes (.recs [.i64, .i64] false) (.rr q)) : F.law12_ProdNil 100000 a kd cu dy bs md fe li q id d = some true :=
  Wide.ProdNil (k := 99900) a kd cu dy bs md fe li hq id d
end L
end Go.Proofs.Ytmmaechogibodaa.Wide

namespace Go.Proofs.Ytmmaechogibodaa.Wide
open Go Go.RowKit Go.Proofs.Ytmmaechogibodaa.Vm
/-- A field of a row. -/
def rI (R : List (List D)) (i j : Nat) : Int := (nth d0 (nth [] R i) j).toI
/-- A row of a version. -/
def tD (q : List (List Int)) : List (List D) := q.map fun r => [.i (nth 0 r 0), .i (nth 0 r 1)]
def rwD (a kd cu dy bs md fe li : Int) (q : List (List Int)) : List D := [.i a, .i kd, .i cu, .i dy, .i bs, .i md, .i fe, .i li, .l (tD q)]
/-- Tiers as numbers again. -/
def tN (l : List (List D)) : List (List Int) := l.map fun r => [(nth d0 r 0).toI, (nth d0 r 1).toI]
theorem bt_true {c : Bool} {α : Type} {x y : α} (h : c = true) : (bi c x y) = x := by rw [h, bi_eq, if_pos rfl]
theorem bt_false {c : Bool} {α : Type} {x y : α} (h : c = false) : (bi c x y) = y := by rw [h, bi_eq, if_neg (by decide)]
theorem clone_val (K : Nat) {q : List (List Int)} (hq : q.length ≤ 8796093022208) : F.slices_Clone___api_Tier_api_Tier_ K q = some q := by
  unfold F.slices_Clone___api_Tier_api_Tier_
  by_cases h : 0 < q.length
  · rw [bt_true (by simpa using h), bt_true (by simpa using hq)]; rfl
  · have e : q = [] := List.eq_nil_of_length_eq_zero (by omega)
    subst e
    rw [bt_false (by decide)]
    refine ambO_same fun b => ?_
    cases b <;> rfl
theorem copied_val (K : Nat) (a kd cu dy bs md fe li : Int) {q : List (List Int)} (hq : q.length ≤ 8796093022208) : F.prod_copied K a kd cu dy bs md fe li q = some (a, kd, cu, dy, bs, md, fe, li, q) := by
  unfold F.prod_copied
  rw [clone_val K hq, Option.bind_some]
theorem cloner_val (K : Nat) {q : List (List D)} (hq : q.length ≤ 8796093022208) : F.slices_Clone___api_Tier_api_Tier__ro K q = some (tN q) := by
  unfold F.slices_Clone___api_Tier_api_Tier__ro
  by_cases h : 0 < q.length
  · rw [bt_true (by simpa using h), bt_true (by simpa using hq)]; rfl
  · have e : q = [] := List.eq_nil_of_length_eq_zero (by omega)
    subst e
    rw [bt_false (by decide)]
    refine ambO_same fun b => ?_
    cases b <;> rfl
theorem copiedr_val (K : Nat) (a kd cu dy bs md fe li : Int) {q : List (List D)} (hq : q.length ≤ 8796093022208) : F.prod_copied_ro K a kd cu dy bs md fe li q = some (a, kd, cu, dy, bs, md, fe, li, tN q) := by
  unfold F.prod_copied_ro
  rw [show (D.l q).toL = q from rfl, cloner_val K hq, Option.bind_some]
theorem ofr_val (K : Nat) (a kd cu dy bs md fe li : Int) {q : List (List D)} (hq : q.length * 16 ≤ reachBytes) : F.law12_of_ro K a kd cu dy bs md fe li q = some (a, kd, cu, dy, bs, md, fe, li, tN q) := by
  have hr : reachBytes = 140737488351232 := rfl
  unfold F.law12_of_ro
  simp only [bi_eq]
  rw [if_pos (by simp; omega), if_pos (by simp; omega), if_pos (by simp; omega)]
  simp [tN]
/-- One of the product stands there from a later day. -/
def dtB (R : List (List D)) (a d : Int) (i : Nat) : Prop := ∃ j, i ≤ j ∧ j < R.length ∧ rI R j 0 = a ∧ d < rI R j 3
/-- One of the product stands there that is of another kind. -/
def kdB (R : List (List D)) (a kd cu : Int) (i : Nat) : Prop := ∃ j, i ≤ j ∧ j < R.length ∧ rI R j 0 = a ∧ (rI R j 1 ≠ kd ∨ rI R j 2 ≠ cu)
open Classical in
theorem clash_gen (K : Nat) {a kd cu d bs md fe li : Int} {t : List (List Int)} {R : List (List D)} {m : List (List Int × List Int)} (hl : R.length ≤ 1000) : ∀ (k i : Nat) (x : Int), i ≤ R.length → R.length - i < k →
    F._prod_Catalogue_clash_l6 K k x (R.length : Int) (i : Int) m a kd cu d bs md fe li t R = some (if dtB R a d i then .inr (9, R, m) else .inl (if kdB R a kd cu i then 11 else x, R, m))
  | 0, i, x, _, hk => by omega
  | k + 1, i, x, hi, hk => by
    rw [F._prod_Catalogue_clash_l6]
    by_cases e : i = R.length
    · rw [bt_false (by simp; omega), if_neg (fun ⟨j, h1, h2, _⟩ => by omega), if_neg (fun ⟨j, h1, h2, _⟩ => by omega)]
    · have hi' : i < R.length := by omega
      have e0 : IntKind.i64.wrap ((i : Int) + 1) = ((i + 1 : Nat) : Int) := by rw [iw (by omega) (by omega)]; omega
      have ih := fun x => clash_gen K (a := a) (kd := kd) (cu := cu) (d := d) (bs := bs) (md := md) (fe := fe) (li := li) (t := t) (m := m) hl k (i + 1) x (by omega) (by omega)
      have d1 : dtB R a d i ↔ (rI R i 0 = a ∧ d < rI R i 3) ∨ dtB R a d (i + 1) := by
        constructor
        · rintro ⟨j, h1, h2, h3⟩
          by_cases c : j = i
          · subst c; exact .inl h3
          · exact .inr ⟨j, by omega, h2, h3⟩
        · rintro (h | ⟨j, h1, h2, h3⟩)
          · exact ⟨i, by omega, hi', h⟩
          · exact ⟨j, by omega, h2, h3⟩
      have d2 : kdB R a kd cu i ↔ (rI R i 0 = a ∧ (rI R i 1 ≠ kd ∨ rI R i 2 ≠ cu)) ∨ kdB R a kd cu (i + 1) := by
        constructor
        · rintro ⟨j, h1, h2, h3⟩
          by_cases c : j = i
          · subst c; exact .inl h3
          · exact .inr ⟨j, by omega, h2, h3⟩
        · rintro (h | ⟨j, h1, h2, h3⟩)
          · exact ⟨i, by omega, hi', h⟩
          · exact ⟨j, by omega, h2, h3⟩
      rw [bt_true (by simp; omega), bt_true (by simp; omega)]
      simp only [Int.toNat_natCast, e0]
      change bi (rI R i 0 != a) _ (bi (decide (rI R i 3 > d)) _ (bi (rI R i 1 != kd) _ (bi (rI R i 2 != cu) _ _))) = _
      simp only [ih]
      by_cases c0 : rI R i 0 = a
      · rw [bt_false (by simpa using c0)]
        by_cases c1 : rI R i 3 > d
        · rw [bt_true (by simpa using c1), if_pos (d1.2 (.inl ⟨c0, c1⟩))]
        · rw [bt_false (by simpa using c1)]
          have d1' : dtB R a d i ↔ dtB R a d (i + 1) := ⟨fun h => (d1.1 h).resolve_left fun h => c1 h.2, fun h => d1.2 (.inr h)⟩
          by_cases c2 : rI R i 1 = kd ∧ rI R i 2 = cu
          · rw [bt_false (by simpa using c2.1), bt_false (by simpa using c2.2)]
            have d2' : kdB R a kd cu i ↔ kdB R a kd cu (i + 1) := ⟨fun h => (d2.1 h).resolve_left fun h => by rcases h.2 with g | g; exact g c2.1; exact g c2.2, fun h => d2.2 (.inr h)⟩
            simp only [d1', d2']
          · have d2' : kdB R a kd cu i := d2.2 (.inl ⟨c0, by by_cases g : rI R i 1 = kd; exact .inr fun g' => c2 ⟨g, g'⟩; exact .inl g⟩)
            simp only [d1', d2', if_true]
            by_cases c3 : rI R i 1 = kd
            · have c4 : rI R i 2 ≠ cu := fun g => c2 ⟨c3, g⟩
              rw [bt_false (by simpa using c3), bt_true (by simpa using c4)]
              simp
            · rw [bt_true (by simpa using c3)]
              simp
      · rw [bt_true (by simpa using c0)]
        have d1' : dtB R a d i ↔ dtB R a d (i + 1) := ⟨fun h => (d1.1 h).resolve_left fun h => c0 h.1, fun h => d1.2 (.inr h)⟩
        have d2' : kdB R a kd cu i ↔ kdB R a kd cu (i + 1) := ⟨fun h => (d2.1 h).resolve_left fun h => c0 h.1, fun h => d2.2 (.inr h)⟩
        simp only [d1', d2']
open Classical in
/-- The least error of a version beside those that there are. -/
noncomputable def clE (R : List (List D)) (m : List (List Int × List Int)) (a kd cu d : Int) : Int :=
  if mhas m [a, d] = true then 8 else if dtB R a d 0 then 9 else if kdB R a kd cu 0 then 11 else if R.length = 64 then 17 else 0
theorem clash_val {k : Nat} {a kd cu d bs md fe li : Int} {t : List (List Int)} {R : List (List D)} {m : List (List Int × List Int)} (hl : R.length ≤ 1000) :
    F._prod_Catalogue_clash (k + 1100) R m a kd cu d bs md fe li t = some (clE R m a kd cu d, R, m) := by
  have g := clash_gen (k + 1100) (a := a) (kd := kd) (cu := cu) (d := d) (bs := bs) (md := md) (fe := fe) (li := li) (t := t) (m := m) hl (k + 1100) 0 0 (by omega) (by omega)
  have g' : F._prod_Catalogue_clash_l6 (k + 1100) (k + 1100) 0 (R.length : Int) 0 m a kd cu d bs md fe li t R = _ := g
  unfold F._prod_Catalogue_clash clE
  by_cases h : mhas m [a, d] = true
  · rw [bt_true h, if_pos h]
  · rw [bt_false (by simpa using h), if_neg h, g']
    by_cases h1 : dtB R a d 0
    · rw [if_pos h1, if_pos h1]; rfl
    · rw [if_neg h1, if_neg h1]
      by_cases h2 : kdB R a kd cu 0
      · rw [if_pos h2, if_pos h2]; rfl
      · rw [if_neg h2, if_neg h2]
        simp only [casO, Option.bind_some]
        rw [bt_true (by decide)]
        by_cases h3 : R.length = 64
        · rw [bt_true (by simp; omega), if_pos h3]
        · rw [bt_false (by simp; omega), if_neg h3]
theorem zc_len {q : List (List Int)} (h : zc q = 0) : q.length ≤ 8 := (zc_zero.1 h).2.1
theorem ck_len {a kd cu d bs md fe li : Int} {q : List (List Int)} (h : ck a kd cu d bs md fe li q = 0) : q.length ≤ 8 := by
  unfold ck at h
  split at h
  · cases h
  · exact zc_len h
/-- One more. -/
theorem add_val {k : Nat} {a kd cu d bs md fe li : Int} {q : List (List Int)} {R : List (List D)} {m : List (List Int × List Int)} (hl : R.length ≤ 1000) :
    F._prod_Catalogue_Add (k + 1100) R m a kd cu d bs md fe li q = some (if ck a kd cu d bs md fe li q ≠ 0 then (ck a kd cu d bs md fe li q, R, m) else if clE R m a kd cu d ≠ 0 then (clE R m a kd cu d, R, m) else (0, R ++ [rwD a kd cu d bs md fe li q], mset m [a, d] [(R.length : Int)])) := by
  unfold F._prod_Catalogue_Add
  rw [check_val (by omega), Option.bind_some]
  by_cases h1 : ck a kd cu d bs md fe li q = 0
  · rw [bt_false (by simpa using h1), clash_val hl, Option.bind_some, if_neg (by simpa using h1)]
    simp only
    by_cases h2 : clE R m a kd cu d = 0
    · rw [bt_false (by simpa using h2), copied_val _ a kd cu d bs md fe li (q := q) (by have := ck_len h1; omega), Option.bind_some, if_neg (by simpa using h2)]
      simp only
      rw [bt_true (by simp; omega)]
      rfl
    · rw [bt_true (by simpa using h2), if_pos h2]
  · rw [bt_true (by simpa using h1), if_pos h1]
theorem rI_old {R : List (List D)} {r : List D} {i j : Nat} (h : i < R.length) : rI (R ++ [r]) i j = rI R i j := by
  unfold rI; rw [nth_app, if_pos h]
theorem rI_new {R : List (List D)} {r : List D} {j : Nat} : rI (R ++ [r]) R.length j = (nth d0 r j).toI := by
  unfold rI; rw [nth_app, if_neg (by omega), if_pos rfl]
/-- What stays: the first one is plain, all others are of other products. -/
def Ap (X : Int) (R : List (List D)) : Prop := 0 < R.length ∧ R.length ≤ 64 ∧ nth [] R 0 = rowD X 5 ∧ ∀ i, 0 < i → i < R.length → rI R i 0 ≠ X
theorem clE_len {R : List (List D)} {m : List (List Int × List Int)} {a kd cu d : Int} (h : clE R m a kd cu d = 0) : R.length ≠ 64 := by
  unfold clE at h
  split at h
  · cases h
  · split at h
    · cases h
    · split at h
      · cases h
      · split at h
        · cases h
        · assumption
theorem ap_add {X a kd cu d bs md fe li : Int} {q : List (List Int)} {R : List (List D)} {m : List (List Int × List Int)} {k : Nat} (h : Ap X R) (ha : a ≠ X) : ∃ e R' m', F._prod_Catalogue_Add (k + 1100) R m a kd cu d bs md fe li q = some (e, R', m') ∧ Ap X R' := by
  rw [add_val (by have := h.2.1; omega)]
  by_cases h1 : ck a kd cu d bs md fe li q = 0
  · rw [if_neg (by simpa using h1)]
    by_cases h2 : clE R m a kd cu d = 0
    · rw [if_neg (by simpa using h2)]
      refine ⟨_, _, _, rfl, by simp, ?_, ?_, fun i h0 hi => ?_⟩
      · have := clE_len h2; have := h.2.1; simp; omega
      · rw [nth_app, if_pos h.1]; exact h.2.2.1
      · rw [List.length_append, List.length_singleton] at hi
        by_cases c : i < R.length
        · rw [rI_old c]; exact h.2.2.2 i h0 c
        · rw [show i = R.length by omega, rI_new]; exact ha
    · rw [if_pos h2]; exact ⟨_, _, _, rfl, h⟩
  · rw [if_pos h1]; exact ⟨_, _, _, rfl, h⟩
theorem scan_ap {k : Nat} {X q : Int} {R : List (List D)} (h : Ap X R) : ∀ i : Nat, 0 < i → i ≤ R.length → F.At.scan (k + 100) R X q i = some (if 5 ≤ q then .inr ([X, 1, 0, 5, 0, 0, 0, 0], [[0, 5]]) else .inl ())
  | 0, h0, _ => by omega
  | i + 1, _, hi => by
    rw [F.At.scan]
    by_cases c : i = 0
    · subst c
      rw [h.2.2.1, rnd_ok, Option.bind_some]
      by_cases c5 : 5 ≤ q
      · rw [if_pos c5]
      · rw [if_neg c5]; rfl
    · have hn := h.2.2.2 i (by omega) (by omega)
      have e : F.At.rnd (k + 100) (i : Int) (nth [] R i) X q = some (.inl ()) := by
        unfold F.At.rnd
        rw [bt_false (by simpa [rI] using hn)]
      rw [e, Option.bind_some]
      exact scan_ap h i (by omega) (by omega)
theorem at_ap {k : Nat} {X q : Int} {R : List (List D)} {m : List (List Int × List Int)} (h : Ap X R) (hq : 1 ≤ q ∧ q ≤ 3652059) :
    F._prod_Catalogue_At (k + 100) R m X q = some (if 5 ≤ q then (([X, 1, 0, 5, 0, 0, 0, 0], [[0, 5]]), 0, R, m) else (([0, 0, 0, 0, 0, 0, 0, 0], []), 7, R, m)) := by
  unfold F._prod_Catalogue_At
  rw [bt_false (by simp; omega), bt_false (by simp; omega), bt_true (by have := h.2.1; simp; omega), scan_ap h R.length h.1 (Nat.le_refl _)]
  by_cases c : 5 ≤ q
  · rw [if_pos c, if_pos c]; rfl
  · rw [if_neg c, if_neg c]; rfl
abbrev PSh : List Sh := [.int .i64, .int .i64, .int .i64, .int .i64, .int .i64, .int .i64, .int .i64, .int .i64, .sl [.int .i64, .int .i64]]
theorem row_fit {B : Nat} {dd : List (List D)} (h : DFit B (.sl PSh) (.l dd)) {i : Nat} (hi : i < dd.length) : (nth d0 (nth [] dd i) 8).toL.length * 16 ≤ B := by
  cases h with
  | sl _ _ hn hh =>
    have := hh i 8 (nth [] dd i) (.sl [.int .i64, .int .i64]) (by rw [nth_eq, List.getD_eq_getElem?_getD, List.getElem?_eq_getElem hi]; rfl) rfl
    generalize nth d0 (nth [] dd i) 8 = x at this
    cases this with
    | sl _ xs hn hh => exact hn
theorem apart_loop {k : Nat} {x1 X : Int} {dd : List (List D)} (hX : X = 1000000000) (hl : dd.length ≤ 9223372036854775807) (hf : DFit reachBytes (.sl PSh) (.l dd)) : ∀ (f i : Nat) (R : List (List D)) (m : List (List Int × List Int)), i ≤ dd.length → dd.length - i < f → Ap X R →
    ∃ R' m', Ap X R' ∧ F.law12_ProdApart_l7 (k + 1100) f x1 dd (dd.length : Int) (i : Int) R m = some (x1, R', m')
  | 0, i, R, m, _, hk, _ => by omega
  | f + 1, i, R, m, hi, hk, hR => by
    rw [F.law12_ProdApart_l7]
    by_cases e : i = dd.length
    · rw [bt_false (by simp; omega)]
      exact ⟨R, m, hR, rfl⟩
    have hi' : i < dd.length := by omega
    have e0 : IntKind.i64.wrap ((i : Int) + 1) = ((i + 1 : Nat) : Int) := by rw [iw (by omega) (by omega)]; omega
    rw [bt_true (by simp; omega), bt_true (by simp; omega)]
    simp only [e0, Int.toNat_natCast, show (D.l dd).toL = dd from rfl]
    by_cases c : (i : Int) < 60
    · rw [bt_true (by simpa using c)]
      by_cases c1 : (nth d0 (nth [] dd i) 0).toI = 1000000000
      · rw [bt_false (by simpa using c1)]
        exact apart_loop hX hl hf f (i + 1) R m (by omega) (by omega) hR
      · rw [bt_true (by simpa using c1)]
        rw [show (D.l (nth d0 (nth [] dd i) 8).toL).toL = (nth d0 (nth [] dd i) 8).toL from rfl, ofr_val _ _ _ _ _ _ _ _ _ (row_fit hf hi'), Option.bind_some]
        simp only
        obtain ⟨e', R', m', h1, h2⟩ := ap_add (k := k) (m := m) (kd := (nth d0 (nth [] dd i) 1).toI) (cu := (nth d0 (nth [] dd i) 2).toI) (d := (nth d0 (nth [] dd i) 3).toI) (bs := (nth d0 (nth [] dd i) 4).toI) (md := (nth d0 (nth [] dd i) 5).toI) (fe := (nth d0 (nth [] dd i) 6).toI) (li := (nth d0 (nth [] dd i) 7).toI) (q := tN (nth d0 (nth [] dd i) 8).toL) hR (hX ▸ c1)
        rw [h1, Option.bind_some]
        exact apart_loop hX hl hf f (i + 1) R' m' (by omega) (by omega) h2
    · rw [bt_false (by simpa using c)]
      exact apart_loop hX hl hf f (i + 1) R m (by omega) (by omega) hR
theorem ProdApart {x1 : Int} {dd : List (List D)} (hx : 0 ≤ x1 ∧ x1 ≤ 65535) (hl : dd.length ≤ 9223372036854775807) (hf : DFit reachBytes (.sl PSh) (.l dd)) : F.law12_ProdApart (dd.length + 1100) dd x1 = some true := by
  have hN : F.prod_New (dd.length + 1100) = some ([], []) := rfl
  have aw : F.law12_awake (dd.length + 1100) = some true := awake12 (dd.length + 1000)
  have h0 := add_ok (dd.length + 1000) (a := 1000000000) (d := 5) (by decide) (by decide) (ds := []) (m := []) (by decide) (fun i hi => by simp at hi) rfl
  have h0' : F._prod_Catalogue_Add (dd.length + 1100) [] [] 1000000000 1 0 5 0 0 0 0 [[0, 5]] = some (0, [rowD 1000000000 5], [([1000000000, 5], [0])]) := h0
  have hA : Ap 1000000000 [rowD 1000000000 5] := ⟨by simp, by simp, rfl, fun i h0 hi => by simp at hi; omega⟩
  obtain ⟨R, m, hR, hL⟩ := apart_loop (k := dd.length) (x1 := x1) rfl hl hf (dd.length + 1100) 0 _ [([1000000000, 5], [0])] (by omega) (by omega) hA
  have hL' : F.law12_ProdApart_l7 (dd.length + 1100) (dd.length + 1100) x1 (D.l dd).toL (dd.length : Int) 0 [rowD 1000000000 5] [([1000000000, 5], [0])] = some (x1, R, m) := hL
  have a1 := at_ap (k := dd.length + 1000) (m := m) (q := 5 + x1) hR ⟨by omega, by omega⟩
  have a2 := at_ap (k := dd.length + 1000) (m := m) (q := 4) hR (by decide)
  rw [if_pos (by omega)] at a1
  rw [if_neg (by omega)] at a2
  have a1' : F._prod_Catalogue_At (dd.length + 1100) R m 1000000000 (5 + x1) = _ := a1
  have a2' : F._prod_Catalogue_At (dd.length + 1100) R m 1000000000 4 = _ := a2
  have e2 : IntKind.i64.wrap (5 + IntKind.i64.wrap x1) = 5 + x1 := by rw [iw (x := x1) (by omega) (by omega), iw (by omega) (by omega)]
  unfold F.law12_ProdApart
  rw [aw, Option.bind_some, bt_false (by decide), hN, Option.bind_some, plain_ok, Option.bind_some]
  simp only
  rw [h0', Option.bind_some]
  simp only
  rw [bt_false (by decide), hL', Option.bind_some]
  simp only [e2]
  rw [a1', Option.bind_some]
  simp only
  rw [a2', Option.bind_some]
  rfl
namespace L
theorem ProdApart {dd : List (List D)} {a : Int} (w0 : DOk (.sl PSh) (.l dd)) (w1 : (Lit.int .u16 a).wf = true) (hf : UFit reachBytes (.ro PSh) (.d dd)) : ∃ K, F.law12_ProdApart K dd a = some true :=
  ⟨dd.length + 1100, Wide.ProdApart (by simp [Lit.wf, IntKind.min, IntKind.max, IntKind.signed, IntKind.bits] at w1; omega) (by cases w0 with | sl _ _ hn _ _ => exact Nat.le_trans hn (by decide)) hf⟩
end L
end Go.Proofs.Ytmmaechogibodaa.Wide

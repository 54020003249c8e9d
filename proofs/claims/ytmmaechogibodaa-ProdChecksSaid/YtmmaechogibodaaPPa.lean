/- Products: versions of one product, added from day to day; the law ProdHolds. Conditions: none here. -/
import Derived.Test.YtmmaechogibodaaFO
import Derived.KernelRfl
set_option linter.unusedVariables false
set_option linter.unusedSimpArgs false
namespace Go.Proofs.Ytmmaechogibodaa.Wide
open Go Go.RowKit Go.Proofs.Ytmmaechogibodaa.Vm
theorem awake12 (k : Nat) : F.law12_awake (k + 100) = some true := by kernel_rfl
theorem iw {x : Int} (h0 : -9223372036854775808 ≤ x) (h1 : x < 9223372036854775808) : IntKind.i64.wrap x = x := by
  have e : IntKind.i64.wrap x = if x % 18446744073709551616 ≥ 9223372036854775808 then x % 18446744073709551616 - 18446744073709551616 else x % 18446744073709551616 := by
    simp [IntKind.wrap, IntKind.signed, IntKind.bits]
  rw [e]; split <;> omega
theorem plain_ok (K : Nat) (a d : Int) : F.law12_plain K a d = some (a, 1, 0, d, 0, 0, 0, 0, [[0, 5]]) := by kernel_rfl
theorem digits0 (k : Nat) : F.money_Digits (k + 100) 0 = some (2, 0) := by kernel_rfl
theorem tiers0 (k : Nat) : F.prod_Tiers (k + 100) [[0, 5]] = some 0 := by kernel_rfl
theorem within0 (k : Nat) : F.prod_within (k + 100) 0 10000000000000 = some true := by kernel_rfl
theorem copied0 (k : Nat) (a d : Int) : F.prod_copied (k + 100) a 1 0 d 0 0 0 0 [[0, 5]] = some (a, 1, 0, d, 0, 0, 0, 0, [[0, 5]]) := by kernel_rfl
theorem copiedro0 (k : Nat) (a d : Int) : F.prod_copied_ro (k + 100) a 1 0 d 0 0 0 0 [[.i 0, .i 5]] = some (a, 1, 0, d, 0, 0, 0, 0, [[0, 5]]) := by kernel_rfl
theorem check0 (k : Nat) {a d : Int} (ha : 1 ≤ a ∧ a ≤ 1000000000) (hd : 1 ≤ d ∧ d ≤ 3652059) : F.prod_Check (k + 100) a 1 0 d 0 0 0 0 [[0, 5]] = some 0 := by
  unfold F.prod_Check
  rw [digits0, Option.bind_some]
  simp only [bi_eq, within0, tiers0, Option.bind_some]
  rw [if_neg (by simp; omega), if_neg (by simp; omega), if_neg (by decide), if_neg (by decide), if_neg (by simp; omega), if_neg (by simp; omega), if_neg (by decide), if_neg (by decide), if_neg (by decide), if_neg (by decide), if_neg (by decide), if_neg (by decide)]
/-- A plain version as data. -/
def rowD (a d : Int) : List D := [.i a, .i 1, .i 0, .i d, .i 0, .i 0, .i 0, .i 0, .l [[.i 0, .i 5]]]
theorem mhas_set : ∀ (m : List (List Int × List Int)) (k v q : List Int), mhas (mset m k v) q = (decide (k = q) || mhas m q)
  | [], k, v, q => by
    simp only [mset, mhas, mfind]
    by_cases h : k = q
    · simp [h]
    · simp [h]
  | (k', v') :: m, k, v, q => by
    have ih := mhas_set m k v q
    simp only [mset]
    by_cases h : k' = k
    · subst h
      rw [if_pos rfl]
      simp only [mhas, mfind]
      by_cases h2 : k' = q
      · simp [h2]
      · simp [h2]
    · rw [if_neg h]
      simp only [mhas, mfind] at ih ⊢
      by_cases h2 : k' = q
      · simp [h2]
      · rw [if_neg h2, if_neg h2]; exact ih
theorem nth_app {α : Type} (x : α) (l : List α) (y : α) (i : Nat) : nth x (l ++ [y]) i = if i < l.length then nth x l i else if i = l.length then y else x := by
  rw [nth_eq, nth_eq, List.getD_eq_getElem?_getD, List.getD_eq_getElem?_getD]
  by_cases h : i < l.length
  · rw [if_pos h, List.getElem?_append_left h]
  · rw [if_neg h, List.getElem?_append_right (by omega)]
    by_cases h2 : i = l.length
    · rw [if_pos h2, h2]; simp
    · rw [if_neg h2, List.getElem?_eq_none (by simp; omega)]; rfl
/-- A list of plain versions of a product, by their days. -/
def rows (a : Int) (ds : List Int) : List (List D) := ds.map (rowD a)
theorem rows_len (a : Int) (ds : List Int) : (rows a ds).length = ds.length := by simp [rows]
theorem rows_nth (a : Int) (ds : List Int) {i : Nat} (h : i < ds.length) : nth [] (rows a ds) i = rowD a (nth 0 ds i) := by
  rw [nth_eq, nth_eq, List.getD_eq_getElem?_getD, List.getD_eq_getElem?_getD]
  simp [rows, h]
theorem clash_loop (K : Nat) {a d : Int} {ds : List Int} {m : List (List Int × List Int)} {t : List (List Int)} (hl : ds.length ≤ 1000) (hd : ∀ i, i < ds.length → nth 0 ds i ≤ d) : ∀ (k i : Nat), i ≤ ds.length → ds.length - i < k →
    F._prod_Catalogue_clash_l6 K k 0 (ds.length : Int) (i : Int) m a 1 0 d 0 0 0 0 t (rows a ds) = some (Sum.inl (0, rows a ds, m))
  | 0, i, _, hk => by omega
  | k + 1, i, hi, hk => by
    rw [F._prod_Catalogue_clash_l6]
    simp only [bi_eq, Int.toNat_natCast]
    by_cases e : i = ds.length
    · rw [if_neg (by simp; omega)]
    · have hi' : i < ds.length := by omega
      have e0 : IntKind.i64.wrap ((i : Int) + 1) = ((i + 1 : Nat) : Int) := by rw [iw (by omega) (by omega)]; omega
      rw [if_pos (by simp; omega), if_pos (by rw [rows_len]; simp; omega)]
      have n0 : (nth d0 (rowD a (nth 0 ds i)) 0).toI = a := rfl
      have n1 : (nth d0 (rowD a (nth 0 ds i)) 1).toI = 1 := rfl
      have n2 : (nth d0 (rowD a (nth 0 ds i)) 2).toI = 0 := rfl
      have n3 : (nth d0 (rowD a (nth 0 ds i)) 3).toI = nth 0 ds i := rfl
      have := hd i hi'
      simp only [rows_nth a ds hi', n0, n1, n2, n3]
      rw [if_neg (by simp), if_neg (by simp; omega), if_neg (by decide), if_neg (by decide), e0]
      exact clash_loop K hl hd k (i + 1) (by omega) (by omega)
/-- One more, of a later day. -/
theorem add_ok (k : Nat) {a d : Int} (ha : 1 ≤ a ∧ a ≤ 1000000000) (hdd : 1 ≤ d ∧ d ≤ 3652059) {ds : List Int} {m : List (List Int × List Int)} (hl : ds.length < 64) (hd : ∀ i, i < ds.length → nth 0 ds i ≤ d) (hm : mhas m [a, d] = false) :
    F._prod_Catalogue_Add (k + 100) (rows a ds) m a 1 0 d 0 0 0 0 [[0, 5]] = some (0, rows a (ds ++ [d]), mset m [a, d] [(ds.length : Int)]) := by
  have hc : F._prod_Catalogue_clash (k + 100) (rows a ds) m a 1 0 d 0 0 0 0 [[0, 5]] = some (0, rows a ds, m) := by
    have e : F._prod_Catalogue_clash_l6 (k + 100) (k + 100) 0 (((rows a ds).length : Nat) : Int) 0 m a 1 0 d 0 0 0 0 [[0, 5]] (rows a ds) = some (Sum.inl (0, rows a ds, m)) := by rw [rows_len]; exact clash_loop (k + 100) (m := m) (t := [[0, 5]]) (a := a) (d := d) (ds := ds) (by omega) hd (k + 100) 0 (by omega) (by omega)
    unfold F._prod_Catalogue_clash
    rw [hm, e]
    simp only [bi_eq, casO, Option.bind_some]
    rw [if_pos (by decide), if_neg (by rw [rows_len]; simp; omega)]
  unfold F._prod_Catalogue_Add
  rw [check0 k ha hdd, Option.bind_some]
  simp only [bi_eq]
  rw [if_neg (by decide), hc, Option.bind_some]
  simp only
  rw [if_neg (by decide), copied0, Option.bind_some]
  simp only
  rw [if_pos (by rw [rows_len]; simp; omega), rows_len]
  have : rows a (ds ++ [d]) = rows a ds ++ [rowD a d] := by simp [rows]
  rw [this]
  rfl
/-- The last day that has come. -/
def lastD (ds : List Int) (q : Int) : Nat → Int
  | 0 => 0
  | i + 1 => if nth 0 ds i ≤ q then nth 0 ds i else lastD ds q i
theorem rnd_ok (k : Nat) (i : Int) (a d q : Int) : F.At.rnd (k + 100) i (rowD a d) a q = some (if d ≤ q then .inr ([a, 1, 0, d, 0, 0, 0, 0], [[0, 5]]) else .inl ()) := by
  unfold F.At.rnd
  have n0 : (nth d0 (rowD a d) 0).toI = a := rfl
  have n3 : (nth d0 (rowD a d) 3).toI = d := rfl
  have e : F.prod_copied_ro (k + 100) (nth d0 (rowD a d) 0).toI (nth d0 (rowD a d) 1).toI (nth d0 (rowD a d) 2).toI (nth d0 (rowD a d) 3).toI (nth d0 (rowD a d) 4).toI (nth d0 (rowD a d) 5).toI (nth d0 (rowD a d) 6).toI (nth d0 (rowD a d) 7).toI (nth d0 (rowD a d) 8).toL = some (a, 1, 0, d, 0, 0, 0, 0, [[0, 5]]) := copiedro0 k a d
  rw [e, Option.bind_some, n0, n3]
  simp only [bi_eq]
  rw [if_pos (by simp)]
  by_cases h : d ≤ q
  · rw [if_pos (by simpa using h), if_pos h]
  · rw [if_neg (by simpa using h), if_neg h]
theorem scan_ok (k : Nat) {a q : Int} {ds : List Int} (h1 : ∀ i, i < ds.length → 1 ≤ nth 0 ds i) : ∀ i : Nat, i ≤ ds.length →
    F.At.scan (k + 100) (rows a ds) a q i = some (if lastD ds q i = 0 then .inl () else .inr ([a, 1, 0, lastD ds q i, 0, 0, 0, 0], [[0, 5]]))
  | 0, _ => rfl
  | i + 1, hi => by
    rw [F.At.scan, rows_nth a ds (by omega), rnd_ok, Option.bind_some]
    have := h1 i (by omega)
    by_cases h : nth 0 ds i ≤ q
    · have e : lastD ds q (i + 1) = nth 0 ds i := by rw [lastD, if_pos h]
      rw [if_pos h, e, if_neg (by omega)]
    · have e : lastD ds q (i + 1) = lastD ds q i := by rw [lastD, if_neg h]
      rw [if_neg h, e]
      exact scan_ok k h1 i (by omega)
theorem at_ok (k : Nat) {a q : Int} {ds : List Int} {m : List (List Int × List Int)} (hq : 1 ≤ q ∧ q ≤ 3652059) (hl : ds.length ≤ 1000) (h1 : ∀ i, i < ds.length → 1 ≤ nth 0 ds i) :
    F._prod_Catalogue_At (k + 100) (rows a ds) m a q = some (if lastD ds q ds.length = 0 then (([0, 0, 0, 0, 0, 0, 0, 0], []), 7, rows a ds, m) else (([a, 1, 0, lastD ds q ds.length, 0, 0, 0, 0], [[0, 5]]), 0, rows a ds, m)) := by
  unfold F._prod_Catalogue_At
  simp only [bi_eq, rows_len]
  rw [if_neg (by simp; omega), if_neg (by simp; omega), if_pos (by simp; omega), scan_ok k h1 ds.length (Nat.le_refl _)]
  by_cases h : lastD ds q ds.length = 0
  · rw [if_pos h, if_pos h]; rfl
  · rw [if_neg h, if_neg h]; rfl
/-- The days, one behind the other. -/
def dyS (l : List Int) : Nat → Int
  | 0 => 0
  | i + 1 => dyS l i + 1 + nth 0 l i % 100
def dysL (l : List Int) (i : Nat) : List Int := (List.range i).map fun j => dyS l (j + 1)
theorem dysL_len (l : List Int) (i : Nat) : (dysL l i).length = i := by simp [dysL]
theorem dysL_nth (l : List Int) {i j : Nat} (h : j < i) : nth 0 (dysL l i) j = dyS l (j + 1) := by
  rw [nth_eq, List.getD_eq_getElem?_getD]; simp [dysL, h]
theorem dysL_succ (l : List Int) (i : Nat) : dysL l (i + 1) = dysL l i ++ [dyS l (i + 1)] := by simp [dysL, List.range_succ]
theorem dyS_bd (l : List Int) : ∀ i : Nat, (i : Int) ≤ dyS l i ∧ dyS l i ≤ 100 * i
  | 0 => by simp [dyS]
  | i + 1 => by
    have := dyS_bd l i
    simp only [dyS]
    omega
theorem dyS_mono (l : List Int) : ∀ (i j : Nat), i ≤ j → dyS l i ≤ dyS l j
  | i, 0, h => by rw [show i = 0 by omega]; omega
  | i, j + 1, h => by
    by_cases e : i = j + 1
    · rw [e]; omega
    · have := dyS_mono l i j (by omega)
      simp only [dyS]
      omega
theorem lastD_app (ds : List Int) (x q : Int) : ∀ i : Nat, i ≤ ds.length → lastD (ds ++ [x]) q i = lastD ds q i
  | 0, _ => rfl
  | i + 1, h => by
    have e : nth 0 (ds ++ [x]) i = nth 0 ds i := by rw [nth_app, if_pos (by omega)]
    simp only [lastD, e, lastD_app ds x q i (by omega)]
theorem lastD_succ (l : List Int) (q : Int) (i : Nat) : lastD (dysL l (i + 1)) q (i + 1) = if dyS l (i + 1) ≤ q then dyS l (i + 1) else lastD (dysL l i) q i := by
  rw [lastD, dysL_nth l (by omega), dysL_succ, lastD_app _ _ _ _ (by rw [dysL_len]; omega)]
theorem holds_loop {k : Nat} {x1 : Int} {l : List Int} (hx : 0 ≤ x1 ∧ x1 ≤ 65535) (hl : l.length ≤ 9223372036854775807) (hw : ∀ y ∈ l, 0 ≤ y ∧ y ≤ 65535) : ∀ (f i : Nat) (m : List (List Int × List Int)), i ≤ l.length → i ≤ 60 → 61 - i < f → (∀ x, dyS l i < x → mhas m [3, x] = false) →
    ∃ n m', n ≤ 60 ∧ F.law12_ProdHolds_l6 (k + 100) f x1 (lastD (dysL l i) (1 + x1) i) (dyS l i) l (l.length : Int) (i : Int) (rows 3 (dysL l i)) m = some (Sum.inl (x1, lastD (dysL l n) (1 + x1) n, rows 3 (dysL l n), m'))
  | 0, i, m, _, _, hf, _ => by omega
  | f + 1, i, m, hi, hi6, hf, hm => by
    rw [F.law12_ProdHolds_l6]
    simp only [bi_eq, Int.toNat_natCast]
    by_cases e : i = l.length
    · rw [if_neg (by simp; omega)]
      exact ⟨i, m, hi6, rfl⟩
    rw [if_pos (by simp; omega), if_pos (by simp; omega)]
    by_cases e6 : i = 60
    · rw [if_pos (by simp; omega)]
      exact ⟨i, m, hi6, rfl⟩
    have hi' : i < l.length := by omega
    have hy : 0 ≤ nth 0 l i ∧ nth 0 l i ≤ 65535 := hw _ (by rw [nth_eq, List.getD_eq_getElem?_getD, List.getElem?_eq_getElem hi']; exact List.getElem_mem _)
    have hb := dyS_bd l i
    have em : (nth 0 l i).tmod 100 = nth 0 l i % 100 := by rw [Int.tmod_eq_emod_of_nonneg hy.1]
    have e1 : IntKind.i64.wrap (dyS l i + IntKind.i64.wrap (1 + IntKind.i64.wrap ((nth 0 l i).tmod 100))) = dyS l (i + 1) := by
      rw [em, iw (x := nth 0 l i % 100) (by omega) (by omega), iw (x := 1 + nth 0 l i % 100) (by omega) (by omega), iw (by omega) (by omega), dyS]; omega
    have e2 : IntKind.i64.wrap (1 + IntKind.i64.wrap x1) = 1 + x1 := by rw [iw (x := x1) (by omega) (by omega), iw (by omega) (by omega)]
    have e3 : IntKind.i64.wrap ((i : Int) + 1) = ((i + 1 : Nat) : Int) := by rw [iw (by omega) (by omega)]; omega
    have hb1 := dyS_bd l (i + 1)
    rw [if_neg (by simp; omega)]
    simp only [e1, e2, e3, plain_ok, Option.bind_some]
    have lt1 : dyS l i < dyS l (i + 1) := by rw [dyS]; omega
    rw [add_ok k (a := 3) (d := dyS l (i + 1)) (by decide) ⟨by omega, by omega⟩ (ds := dysL l i) (m := m) (by rw [dysL_len]; omega) (fun j hj => by rw [dysL_len] at hj; rw [dysL_nth l hj]; exact dyS_mono l _ _ (by omega)) (hm _ lt1), Option.bind_some]
    simp only
    rw [if_neg (by decide), ← dysL_succ]
    have hm' : ∀ x, dyS l (i + 1) < x → mhas (mset m [3, dyS l (i + 1)] [((dysL l i).length : Int)]) [3, x] = false := fun x hx => by
      rw [mhas_set, hm x (by omega), Bool.or_false]
      simp; omega
    have ih := holds_loop (k := k) hx hl hw f (i + 1) _ (by omega) (by omega) (by omega) hm'
    rw [lastD_succ] at ih
    by_cases c : dyS l (i + 1) ≤ 1 + x1
    · rw [if_pos c] at ih
      rw [if_pos (by simpa using c)]
      exact ih
    · rw [if_neg c] at ih
      rw [if_neg (by simpa using c)]
      exact ih
theorem ProdHolds {k : Nat} {x1 : Int} {l : List Int} (hx : 0 ≤ x1 ∧ x1 ≤ 65535) (hl : l.length ≤ 9223372036854775807) (hw : ∀ y ∈ l, 0 ≤ y ∧ y ≤ 65535) : F.law12_ProdHolds (k + 100) l x1 = some true := by
  obtain ⟨n, m', hn, h⟩ := holds_loop (k := k) hx hl hw (k + 100) 0 [] (by omega) (by omega) (by omega) (fun _ _ => rfl)
  have h : F.law12_ProdHolds_l6 (k + 100) (k + 100) x1 0 0 l (l.length : Int) 0 [] [] = _ := h
  have e2 : IntKind.i64.wrap (1 + IntKind.i64.wrap x1) = 1 + x1 := by rw [iw (x := x1) (by omega) (by omega), iw (by omega) (by omega)]
  have hN : F.prod_New (k + 100) = some ([], []) := rfl
  unfold F.law12_ProdHolds
  rw [awake12, Option.bind_some, hN, Option.bind_some]
  simp only [bi_eq]
  rw [if_neg (by decide), h]
  simp only [casO, Option.bind_some, e2]
  have hat := at_ok k (a := 3) (q := 1 + x1) (ds := dysL l n) (m := m') ⟨by omega, by omega⟩ (by rw [dysL_len]; omega) (fun i hi => by rw [dysL_len] at hi; rw [dysL_nth l hi]; have := dyS_bd l (i + 1); omega)
  rw [hat, Option.bind_some, dysL_len]
  by_cases c : lastD (dysL l n) (1 + x1) n = 0
  · rw [if_pos c, c]
    rfl
  · rw [if_neg c, if_neg (by simpa using c)]
    simp [nth]
namespace L
theorem ProdHolds {l : List Int} {a : Int} (w0 : l.length ≤ maxLen ∧ ∀ y ∈ l, (Lit.int .u16 y).wf = true) (w1 : (Lit.int .u16 a).wf = true) : F.law12_ProdHolds 100000 l a = some true :=
  Wide.ProdHolds (k := 99900) (by simp [Lit.wf, IntKind.min, IntKind.max, IntKind.signed, IntKind.bits] at w1; omega) (Nat.le_trans w0.1 (by decide)) fun y hy => by
    have := w0.2 y hy
    simp [Lit.wf, IntKind.min, IntKind.max, IntKind.signed, IntKind.bits] at this; omega
end L
end Go.Proofs.Ytmmaechogibodaa.Wide

/- Texts and their bytes; the digits of a number. Conditions: none here. -/
import Derived.Test.YtfeifhlnidkbbaaGreatDoorPWa
set_option linter.unusedVariables false
set_option linter.unusedSimpArgs false
namespace Go.Proofs.YtfeifhlnidkbbaaGreatDoor.Wide
open Go Go.RowKit Go.Proofs.YtfeifhlnidkbbaaGreatDoor.Vm
theorem strOf_app (a b : List Int) : strOf a ++ strOf b = strOf (a ++ b) := by
  apply ByteArray.ext
  simp [strOf]
theorem strOf_size (a : List Int) : (strOf a).size = a.length := by simp [strOf, ByteArray.size]
theorem bt_strOf {l : List Int} {i : Nat} (hi : i < l.length) (h : ∀ x ∈ l, 0 ≤ x ∧ x < 256) : bt (strOf l) (i : Int) = nth 0 l i := by
  have hs := strOf_size l
  have hb := h l[i] (List.getElem_mem hi)
  have e : (strOf l)[i]? = some (UInt8.ofNat l[i].toNat) := by
    rw [getElem?_pos (strOf l) i (by omega)]
    congr 1
    simp [strOf, ByteArray.getElem_eq_getElem_data]
  unfold bt
  rw [Int.toNat_natCast, e, nth_eq, List.getD_eq_getElem?_getD, List.getElem?_eq_getElem hi]
  simp
  omega
theorem bt_bd (s : ByteArray) (i : Int) : 0 ≤ bt s i ∧ bt s i ≤ 255 := by
  unfold bt
  have := (s[i.toNat]?.getD 0).toNat_lt
  omega
theorem bt_ext {s : ByteArray} {a b i : Nat} (hb : b ≤ s.size) (hi : a + i < b) : bt (s.extract a b) (i : Int) = bt s ((a + i : Nat) : Int) := by
  unfold bt
  rw [Int.toNat_natCast, Int.toNat_natCast]
  have hs : (s.extract a b).size = b - a := by simp [ByteArray.size_extract]; omega
  rw [getElem?_pos (s.extract a b) i (by omega), getElem?_pos s (a + i) (by omega)]
  simp [ByteArray.getElem_eq_getElem_data]
theorem of_bytes {s : ByteArray} {l : List Int} (hs : s.size = l.length) (h : ∀ i, i < l.length → nth 0 l i = bt s (i : Int)) : strOf l = s := by
  apply ByteArray.ext
  apply Array.ext
  · exact (strOf_size l).trans hs.symm
  · intro i h1 h2
    have hi : i < l.length := by
      have h3 : s.data.size = s.size := rfl
      omega
    have hi2 : i < s.size := h2
    have := h i hi
    unfold bt at this
    rw [Int.toNat_natCast, getElem?_pos s i (by omega), nth_eq, List.getD_eq_getElem?_getD, List.getElem?_eq_getElem hi] at this
    simp only [Option.getD_some] at this
    simp only [strOf, List.getElem_toArray, List.getElem_map, this, Int.toNat_natCast, UInt8.ofNat_toNat]
    rfl
def dg (c : Int) : Prop := 48 ≤ c ∧ c ≤ 57
instance dgDec (c : Int) : Decidable (dg c) := inferInstanceAs (Decidable (48 ≤ c ∧ c ≤ 57))
theorem dg.bd {c : Int} (h : dg c) : 48 ≤ c ∧ c ≤ 57 := h
theorem seq_self (a : ByteArray) : sEq a a = true := by unfold sEq; exact beq_self_eq_true _
theorem ba_loop (b : ByteArray) : ∀ (n i : Nat) (r : List UInt8), b.size - i = n → ByteArray.toList.loop b i r = r.reverse ++ b.data.toList.drop i
  | 0, i, r, h => by
    have hs : b.data.toList.length = b.size := by simp
    rw [ByteArray.toList.loop.eq_def, if_neg (by omega), List.drop_eq_nil_of_le (by omega), List.append_nil]
  | n + 1, i, r, h => by
    have hs : b.data.toList.length = b.size := by simp
    have hi : i < b.data.size := by have : b.data.size = b.size := rfl; omega
    have hd : b.data.toList.drop i = b.data[i] :: b.data.toList.drop (i + 1) := by
      rw [List.drop_eq_getElem_cons (by simpa using hi)]
      simp
    have hg : b.get! i = b.data[i] := by
      show b.data[i]! = _
      rw [getElem!_pos b.data i hi]
    rw [ByteArray.toList.loop.eq_def, if_pos (by omega), ba_loop b n (i + 1) _ (by omega), List.reverse_cons, List.append_assoc, hd, hg]
    rfl
theorem ba_list (b : ByteArray) : b.toList = b.data.toList := by
  unfold ByteArray.toList
  rw [ba_loop b _ 0 [] rfl]
  rfl
theorem seq_iff {a b : ByteArray} : sEq a b = true ↔ a = b := by
  unfold sEq
  rw [beq_iff_eq]
  constructor
  · intro h
    apply ByteArray.ext
    apply Array.ext'
    rw [ba_list, ba_list] at h
    exact h
  · intro h; rw [h]
def pd : Nat → Int → List Int
  | 0, _ => []
  | n + 1, x => pd n (x / 10) ++ [48 + x % 10]
theorem pd_len : ∀ (n : Nat) (x : Int), (pd n x).length = n
  | 0, _ => rfl
  | n + 1, x => by rw [pd, List.length_append, pd_len n]; rfl
theorem pd_dg : ∀ (n : Nat) (x : Int), ∀ y ∈ pd n x, dg y
  | 0, _, y, h => by simp [pd] at h
  | n + 1, x, y, h => by
    rw [pd, List.mem_append] at h
    rcases h with h | h
    · exact pd_dg n _ y h
    · simp only [List.mem_singleton] at h
      subst h
      exact ⟨by omega, by omega⟩
theorem p10_pos (n : Nat) : (0 : Int) < 10 ^ n := Int.pow_pos (by decide)
theorem ediv_p10 (x : Int) (n : Nat) : x / 10 ^ n / 10 = x / 10 ^ (n + 1) := by
  rw [Int.ediv_ediv_of_nonneg (Int.le_of_lt (p10_pos n)), Int.pow_succ]
theorem ediv_10 (x : Int) (n : Nat) : x / 10 / 10 ^ n = x / 10 ^ (n + 1) := by
  rw [Int.ediv_ediv_of_nonneg (by decide), Int.pow_succ, Int.mul_comm]
theorem pd_front : ∀ (n : Nat) (x : Int), pd (n + 1) x = (48 + x / 10 ^ n % 10) :: pd n x
  | 0, x => by simp [pd]
  | n + 1, x => by
    rw [pd, pd_front n, pd, ediv_10]
    rfl
theorem pd_split : ∀ (a b : Nat) (x : Int), pd (a + b) x = pd a (x / 10 ^ b) ++ pd b x
  | a, 0, x => by simp [pd]
  | a, b + 1, x => by
    rw [← Nat.add_assoc, pd, pd_split a b (x / 10), pd, ediv_10, List.append_assoc]
def dv (v : Int) : List Int → Int
  | [] => v
  | c :: l => dv (10 * v + (c - 48)) l
theorem dv_app : ∀ (l m : List Int) (v : Int), dv v (l ++ m) = dv (dv v l) m
  | [], m, v => rfl
  | c :: l, m, v => by rw [List.cons_append, dv, dv, dv_app l m]
theorem dv_pd : ∀ (n : Nat) (v x : Int), dv v (pd n x) = v * 10 ^ n + x % 10 ^ n
  | 0, v, x => by simp [pd, dv, Int.emod_one]
  | n + 1, v, x => by
    rw [pd, dv_app, dv_pd n]
    simp only [dv]
    have e1 : x % 10 ^ (n + 1) = x / 10 % 10 ^ n * 10 + x % 10 := by
      have h1 := Int.mul_ediv_add_emod x (10 ^ (n + 1))
      have h2 := Int.mul_ediv_add_emod (x / 10) (10 ^ n)
      rw [ediv_10] at h2
      have h3 := Int.mul_ediv_add_emod x 10
      rw [Int.pow_succ] at h1 ⊢
      have h4 : (10 : Int) ^ n * 10 * (x / (10 ^ n * 10)) = 10 ^ n * (x / (10 ^ n * 10)) * 10 := by rw [Int.mul_assoc, Int.mul_comm 10, ← Int.mul_assoc]
      rw [Int.pow_succ] at h2
      omega
    rw [e1, Int.pow_succ, ← Int.mul_assoc]
    omega
theorem dv_step {v : Int} {l : List Int} {i : Nat} (h : i < l.length) : dv v (l.take (i + 1)) = 10 * dv v (l.take i) + (nth 0 l i - 48) := by
  rw [List.take_add_one, List.getElem?_eq_getElem h, nth_eq, List.getD_eq_getElem?_getD, List.getElem?_eq_getElem h]
  simp only [Option.toList_some, Option.getD_some]
  rw [dv_app]
  rfl
theorem dv_nonneg : ∀ {l : List Int} {v : Int}, 0 ≤ v → (∀ y ∈ l, dg y) → v ≤ dv v l ∧ 0 ≤ dv v l
  | [], v, h, _ => ⟨Int.le_refl _, h⟩
  | c :: l, v, h, hd => by
    have hc := (hd c (by simp)).bd
    have := dv_nonneg (l := l) (v := 10 * v + (c - 48)) (by omega) fun y hy => hd y (by simp [hy])
    rw [dv]
    omega
theorem nth_rev (l : List Int) {i : Nat} (h : i < l.length) : nth 0 l.reverse i = nth 0 l (l.length - 1 - i) := by
  rw [nth_eq, nth_eq, List.getD_eq_getElem?_getD, List.getD_eq_getElem?_getD, List.getElem?_reverse h]
theorem list_ext {l m : List Int} (hl : l.length = m.length) (h : ∀ i, i < l.length → nth 0 l i = nth 0 m i) : l = m := by
  refine List.ext_getElem hl fun i h1 h2 => ?_
  have := h i h1
  rw [nth_eq, nth_eq, List.getD_eq_getElem?_getD, List.getD_eq_getElem?_getD, List.getElem?_eq_getElem h1, List.getElem?_eq_getElem h2] at this
  exact this
theorem nth_app (l m : List Int) (i : Nat) : nth 0 (l ++ m) i = if i < l.length then nth 0 l i else nth 0 m (i - l.length) := by
  rw [nth_eq, nth_eq, nth_eq, List.getD_eq_getElem?_getD, List.getD_eq_getElem?_getD, List.getD_eq_getElem?_getD]
  split
  · rename_i h; rw [List.getElem?_append_left h]
  · rename_i h; rw [List.getElem?_append_right (by omega)]
theorem nth_mem {l : List Int} {i : Nat} (h : i < l.length) : nth 0 l i ∈ l := by
  rw [nth_eq, List.getD_eq_getElem?_getD, List.getElem?_eq_getElem h]; exact List.getElem_mem _
end Go.Proofs.YtfeifhlnidkbbaaGreatDoor.Wide

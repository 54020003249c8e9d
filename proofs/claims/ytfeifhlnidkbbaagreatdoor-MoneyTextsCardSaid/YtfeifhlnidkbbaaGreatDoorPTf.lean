/- The text of a decimal: sign, digits, point, digits; and its fronts. Conditions: none here. -/
import Derived.Test.YtfeifhlnidkbbaaGreatDoorPTe
set_option linter.unusedVariables false
set_option linter.unusedSimpArgs false
namespace Go.Proofs.YtfeifhlnidkbbaaGreatDoor.Wide
open Go Go.RowKit Go.Proofs.YtfeifhlnidkbbaaGreatDoor.Vm
theorem rw_low (N : Int) (s : Nat) : ∀ n : Nat, n ≤ s → (rw_ N (s : Int) n).reverse = pd n N
  | 0, _ => rfl
  | n + 1, h => by
    have hr : rw_ N (s : Int) (n + 1) = rw_ N s n ++ (if (n : Int) = s ∧ 0 < n then [46] else []) ++ [48 + N / 10 ^ n % 10] := rfl
    rw [hr, if_neg (by omega), List.append_nil, List.reverse_append, rw_low N s n (by omega), pd_front]
    rfl
def behind (N : Int) (s : Nat) : List Int := if s = 0 then [] else 46 :: pd s N
theorem rw_high (N : Int) (s : Nat) : ∀ n : Nat, (rw_ N (s : Int) (s + (n + 1))).reverse = pd (n + 1) (N / 10 ^ s) ++ behind N s
  | 0 => by
    have hr : rw_ N (s : Int) (s + 1) = rw_ N s s ++ (if (s : Int) = s ∧ 0 < s then [46] else []) ++ [48 + N / 10 ^ s % 10] := rfl
    rw [Nat.zero_add, hr, List.reverse_append, List.reverse_append, rw_low N s s (Nat.le_refl _)]
    unfold behind
    by_cases c : s = 0
    · subst c
      simp [pd]
    · rw [if_pos ⟨rfl, by omega⟩, if_neg c]
      simp [pd]
  | n + 1 => by
    have hr : rw_ N (s : Int) (s + (n + 1) + 1) = rw_ N s (s + (n + 1)) ++ (if ((s + (n + 1) : Nat) : Int) = s ∧ 0 < s + (n + 1) then [46] else []) ++ [48 + N / 10 ^ (s + (n + 1)) % 10] := rfl
    rw [show s + (n + 1 + 1) = s + (n + 1) + 1 by omega, hr, if_neg (by omega), List.append_nil, List.reverse_append, rw_high N s n, pd_front (n + 1), Int.ediv_ediv_of_nonneg (Int.le_of_lt (p10_pos s)), ← Int.pow_add]
    rfl
theorem rw_text {N : Int} {s D : Nat} (d : Dn N (s : Int) D) : (rw_ N (s : Int) D).reverse = pd (D - s) (N / 10 ^ s) ++ behind N s := by
  have := d.sc1
  have e := rw_high N s (D - s - 1)
  rw [show s + (D - s - 1 + 1) = D by omega, show D - s - 1 + 1 = D - s by omega] at e
  exact e
theorem front_pd {N : Int} {s D : Nat} (h0 : 0 ≤ N) (d : Dn N (s : Int) D) : Front (pd (D - s) (N / 10 ^ s)) := by
  have d1 := d.sc1
  refine ⟨fun h => by have := congrArg List.length h; rw [pd_len] at this; simp at this; omega, fun h => ?_⟩
  rw [pd_len] at h
  have l : 0 < N / 10 ^ (D - 1) := by
    rcases d.last with l | l
    · omega
    · exact l
  have e : pd (D - s) (N / 10 ^ s) = (48 + N / 10 ^ s / 10 ^ (D - s - 1) % 10) :: pd (D - s - 1) (N / 10 ^ s) := by
    have := pd_front (D - s - 1) (N / 10 ^ s)
    rwa [show D - s - 1 + 1 = D - s by omega] at this
  rw [e] at h
  have h2 : (48 : Int) + N / 10 ^ s / 10 ^ (D - s - 1) % 10 = 48 := h.2
  rw [Int.ediv_ediv_of_nonneg (Int.le_of_lt (p10_pos s)), ← Int.pow_add, show s + (D - s - 1) = D - 1 by omega] at h2
  have z := d.zero
  have z2 := ediv_p10 N (D - 1)
  rw [show D - 1 + 1 = D by omega, z] at z2
  omega
structure Doc (t sg W G B : List Int) : Prop where
  eq : t = sg ++ (W ++ G)
  sgn : sg = [45] ∨ sg = []
  dig : ∀ x ∈ W, dg x
  front : Front W
  frac : (G = [] ∧ B = []) ∨ (G = 46 :: B ∧ B ≠ [] ∧ B.length ≤ 18)
  digB : ∀ x ∈ B, dg x
  len : t.length ≤ 60
  val : dv 0 (W ++ B) < 170141183460469231731687303715884105728
theorem txt_doc {a0 a1 : Int} {s D : Nat} (ia : I64 a0) (la : Word a1) (f : Fm a0 a1 (s : Int)) (d : Dn (siz a0 a1) (s : Int) D) : ∃ B, Doc (txtD (cf a0 a1) (s : Int) D) (sgt (cf a0 a1)) (pd (D - s) (siz a0 a1 / 10 ^ s)) (behind (siz a0 a1) s) B ∧ B.length = s ∧ dv 0 (pd (D - s) (siz a0 a1 / 10 ^ s) ++ B) = siz a0 a1 := by
  have sb := siz_bd ia la
  have d1 := d.sc1
  have d2 := d.most
  have fa := f
  unfold Fm at fa
  have hv : dv 0 (pd (D - s) (siz a0 a1 / 10 ^ s) ++ pd s (siz a0 a1)) = siz a0 a1 := by
    rw [← pd_split, dv_pd, show D - s + s = D by omega, Int.zero_mul, Int.zero_add]
    have := Int.mul_ediv_add_emod (siz a0 a1) (10 ^ D)
    rw [d.zero, Int.mul_zero, Int.zero_add] at this
    exact this
  have hs : siz a0 a1 < 170141183460469231731687303715884105728 := by
    have h3 := fa.2.2
    unfold siz cf
    unfold I64 at ia
    unfold Word at la
    split <;> omega
  refine ⟨pd s (siz a0 a1), ⟨?_, ?_, pd_dg _ _, front_pd sb.1 d, ?_, pd_dg _ _, ?_, by rw [hv]; exact hs⟩, pd_len _ _, hv⟩
  · unfold txtD
    rw [← siz_abs a0 a1 la, rw_text d]
  · unfold sgt
    split <;> simp
  · unfold behind
    by_cases c : s = 0
    · rw [if_pos c]; subst c; exact .inl ⟨rfl, rfl⟩
    · rw [if_neg c]
      refine .inr ⟨rfl, fun h => ?_, by rw [pd_len]; omega⟩
      have := congrArg List.length h
      rw [pd_len] at this
      exact c this
  · unfold txtD
    rw [← siz_abs a0 a1 la, rw_text d]
    unfold sgt behind
    split <;> split <;> simp [pd_len] <;> omega
theorem Doc.by_ {t sg W G B : List Int} (h : Doc t sg W G B) : By t := by
  rw [h.eq]
  refine By.app ?_ (By.app (By.dg h.dig) ?_)
  · rcases h.sgn with e | e <;> rw [e]
    · intro x hx; simp at hx; omega
    · intro x hx; simp at hx
  · rcases h.frac with ⟨e, _⟩ | ⟨e, _⟩ <;> rw [e]
    · intro x hx; simp at hx
    · intro x hx
      rcases List.mem_cons.1 hx with e2 | e2
      · omega
      · have := (h.digB x e2).bd; omega
theorem Doc.head {t sg W G B : List Int} (h : Doc t sg W G B) : 0 < W.length := List.length_pos_iff.2 h.front.1
theorem nodg46 : ¬ dg 46 := by decide
theorem Doc.whole {t sg W G B : List Int} (h : Doc t sg W G B) {P : List Int} (hP : ∀ x ∈ P, dg x) (hl : P.length ≤ 4) : Whole (sg ++ ((P ++ W) ++ G)) sg (P ++ W) G := by
  have hb := h.by_
  have hz := congrArg List.length h.eq
  have hl0 := h.len
  simp only [List.length_append] at hz
  refine ⟨rfl, ?_, by simp only [List.length_append]; omega, ⟨?_⟩, fun x hx => (List.mem_append.1 hx).elim (hP x) (h.dig x), fun c R' e => ?_⟩
  · rw [h.eq] at hb
    exact By.app hb.left (By.app (By.app (By.dg hP) (By.dg h.dig)) hb.right.right)
  · rcases h.sgn with e | e
    · exact .inl e
    · refine .inr ⟨e, fun _ hn => ?_⟩
      subst e
      have h0 := h.head
      rw [List.nil_append, nth_app, if_pos (by simp only [List.length_append]; omega)] at hn
      have hm : nth 0 (P ++ W) 0 ∈ P ++ W := nth_mem (by simp only [List.length_append]; omega)
      have := ((List.mem_append.1 hm).elim (hP _) (h.dig _)).bd
      omega
  · rcases h.frac with ⟨e2, _⟩ | ⟨e2, _⟩
    · rw [e2] at e; cases e
    · rw [e2] at e; injection e with e3; rw [← e3]; exact nodg46
theorem Doc.read {t sg W G B : List Int} (h : Doc t sg W G B) {K : Nat} (hK : 400 ≤ K) (hn : sg = [45] → dv 0 (W ++ B) ≠ 0) : F.digits_Parse K (strOf t) = some (sv sg (dv 0 (W ++ B)) / 18446744073709551616, sv sg (dv 0 (W ++ B)) % 18446744073709551616, (B.length : Int), 0, 0) := by
  have w := h.whole (P := []) (fun x hx => by simp at hx) (by simp)
  simp only [List.nil_append] at w
  rw [← h.eq] at w
  have nz : ¬ (sg = [45] ∧ ∀ x ∈ W ++ B, x = 48) := fun k => hn k.1 (dv_48 _ 0 rfl k.2)
  rcases h.frac with ⟨e1, e2⟩ | ⟨e1, e2, e3⟩
  · subst e1 e2
    simp only [List.append_nil] at *
    rw [parse_whole w hK h.front rfl (by have := h.val; simpa using this), if_neg nz]
    rfl
  · have fr : Frac G B [] := ⟨by rw [e1, List.append_nil], h.digB, fun c C' e => by cases e⟩
    rw [parse_frac w fr hK h.front e3 h.val, if_neg e2, if_neg (by simp), if_neg nz]
end Go.Proofs.YtfeifhlnidkbbaaGreatDoor.Wide

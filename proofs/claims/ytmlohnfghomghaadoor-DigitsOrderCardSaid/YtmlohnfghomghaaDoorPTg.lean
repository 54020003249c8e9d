/- DigitsWrites and DigitsLead. Conditions: none here. -/
import Derived.Test.YtmlohnfghomghaaDoorPTf
import Derived.Test.YtmlohnfghomghaaDoorPTc
set_option linter.unusedVariables false
set_option linter.unusedSimpArgs false
namespace Go.Proofs.YtmlohnfghomghaaDoor.Wide
open Go Go.RowKit Go.Proofs.YtmlohnfghomghaaDoor.Vm
theorem awake02 : F.law02_awake 100000 = some true := by kernel_rfl
theorem nat_sc {a0 a1 a2 : Int} (f : Fm a0 a1 a2) : ∃ s : Nat, a2 = (s : Int) ∧ s ≤ 18 := ⟨a2.toNat, by unfold Fm at f; omega, by unfold Fm at f; omega⟩
theorem DigitsWrites {K : Nat} (hK : 40000 ≤ K) (hA : F.law02_awake K = some true) {a0 a1 a2 : Int} (ia : I64 a0) (la : Word a1) : F.law02_DigitsWrites K a0 a1 a2 = some true := by
  unfold F.law02_DigitsWrites
  rw [hA, Option.bind_some, bi_eq, if_neg (by decide)]
  by_cases f : Fm a0 a1 a2
  · obtain ⟨s, rfl, hs⟩ := nat_sc f
    have sb := siz_bd ia la
    obtain ⟨D, d⟩ := dn_ex (sc := (s : Int)) sb.1 (by omega) (by omega) (by omega)
    obtain ⟨B, doc, hB, hv⟩ := txt_doc ia la f d
    have hn : sgt (cf a0 a1) = [45] → dv 0 (pd (D - s) (siz a0 a1 / 10 ^ s) ++ B) ≠ 0 := fun h => by
      rw [hv, siz_abs a0 a1 la]
      unfold sgt at h
      split at h
      · rename_i c; rw [if_pos c]; omega
      · cases h
    have e : sv (sgt (cf a0 a1)) (siz a0 a1) = cf a0 a1 := by
      unfold sv sgt
      rw [siz_abs a0 a1 la]
      by_cases c : cf a0 a1 < 0
      · simp [c]
      · simp [c]
    have c1 : cf a0 a1 / 18446744073709551616 = a0 := by unfold cf; unfold Word at la; omega
    have c2 : cf a0 a1 % 18446744073709551616 = a1 := by unfold cf; unfold Word at la; omega
    rw [dwrite_ok (by omega) ia la f d, Option.bind_some, docWrite_ok hK ia la f d, Option.bind_some]
    simp only [bi_eq, seq_self]
    rw [if_neg (by decide), if_neg (by decide), if_neg (by decide), doc.read (by omega) hn, Option.bind_some, hv, e, c1, c2, hB]
    simp
  · rw [dwrite_bad K f, Option.bind_some, docWrite_bad K f, Option.bind_some]
    simp only [bi_eq, seq_self]
    rw [if_neg (by decide), if_neg (by decide), if_pos (by decide)]
theorem DigitsLead {K : Nat} (hK : 40000 ≤ K) (hA : F.law02_awake K = some true) {a0 a1 a2 : Int} (ia : I64 a0) (la : Word a1) : F.law02_DigitsLead K a0 a1 a2 = some true := by
  unfold F.law02_DigitsLead
  rw [hA, Option.bind_some, bi_eq, if_neg (by decide)]
  by_cases f : Fm a0 a1 a2
  · obtain ⟨s, rfl, hs⟩ := nat_sc f
    have sb := siz_bd ia la
    obtain ⟨D, d⟩ := dn_ex (sc := (s : Int)) sb.1 (by omega) (by omega) (by omega)
    obtain ⟨B, doc, hB, hv⟩ := txt_doc ia la f d
    rw [dwrite_ok (by omega) ia la f d, Option.bind_some]
    simp only [bi_eq, strOf_size]
    generalize txtD (cf a0 a1) (s : Int) D = t at *
    generalize sgt (cf a0 a1) = sg at *
    generalize pd (D - s) (siz a0 a1 / 10 ^ s) = W at *
    generalize behind (siz a0 a1) s = G at *
    have hl := doc.len
    have h0 := doc.head
    have hz := congrArg List.length doc.eq
    simp only [List.length_append] at hz
    have hl0 := doc.lead (K := K) (by omega)
    rw [if_neg (by decide), if_neg (by simp; omega), if_pos (by simp; omega)]
    have hb0 := bt_strOf (l := t) (i := 0) (by omega) doc.by_
    rw [show ((0 : Nat) : Int) = 0 from rfl] at hb0
    rw [hb0]
    rcases doc.sgn with e | e
    · have e0 : nth 0 t 0 = 45 := by rw [doc.eq, e]; rfl
      have e1 : (strOf t).extract 1 ((t.length : Int).toNat) = strOf (W ++ G) := by
        rw [Int.toNat_natCast, strOf_ext doc.by_ (Nat.le_refl _)]
        congr 1
        have hq := doc.eq
        rw [e] at hq
        rw [hq]
        show ((W ++ G).take ([45] ++ (W ++ G)).length.pred) = W ++ G
        exact List.take_of_length_le (by simp)
      rw [e0, if_pos (by decide), if_pos (by simp; omega), e1, strOf_size, if_neg (by simp; omega), show (⟨#[45, 48]⟩ : ByteArray) = strOf [45, 48] from rfl, strOf_app]
      rw [e] at hl0
      have hl1 : F.digits_Parse K (strOf ([45, 48] ++ (W ++ G))) = _ := hl0
      rw [hl1, Option.bind_some]
      rfl
    · have e0 : nth 0 t 0 ≠ 45 := by
        rw [doc.eq, e, List.nil_append, nth_app, if_pos h0]
        have := (doc.dig _ (nth_mem h0)).bd
        omega
      rw [if_neg (by simpa using e0), show (⟨#[48]⟩ : ByteArray) = strOf [48] from rfl, strOf_app]
      rw [e] at hl0
      have e3 : [48] ++ t = [] ++ (48 :: W ++ G) := by rw [doc.eq, e]; rfl
      rw [e3, hl0, Option.bind_some]
      rfl
  · rw [dwrite_bad K f, Option.bind_some]
    simp only [bi_eq]
    rw [if_pos (by decide)]
    decide +kernel
namespace L
theorem DigitsWrites {a0 a1 a2 : Int} (w0 : (Lit.int .i64 a0).wf = true) (w1 : (Lit.int .u64 a1).wf = true) (w2 : (Lit.int .i64 a2).wf = true) : F.law02_DigitsWrites 100000 a0 a1 a2 = some true :=
  Wide.DigitsWrites (by decide) awake02 (by simp [Lit.wf, IntKind.min, IntKind.max, IntKind.signed, IntKind.bits] at w0; unfold I64; omega) (by simp [Lit.wf, IntKind.min, IntKind.max, IntKind.signed, IntKind.bits] at w1; unfold Word; omega)
theorem DigitsLead {a0 a1 a2 : Int} (w0 : (Lit.int .i64 a0).wf = true) (w1 : (Lit.int .u64 a1).wf = true) (w2 : (Lit.int .i64 a2).wf = true) : F.law02_DigitsLead 100000 a0 a1 a2 = some true :=
  Wide.DigitsLead (by decide) awake02 (by simp [Lit.wf, IntKind.min, IntKind.max, IntKind.signed, IntKind.bits] at w0; unfold I64; omega) (by simp [Lit.wf, IntKind.min, IntKind.max, IntKind.signed, IntKind.bits] at w1; unfold Word; omega)
end L
end Go.Proofs.YtmlohnfghomghaaDoor.Wide

/- Each operation of the abstract interpreter is what the model does: stores, structs built. Conditions: none here. -/
import Derived.Test.YtmmaechogibodaaVmD
set_option linter.unusedVariables false
set_option linter.unusedSimpArgs false
namespace Go.Proofs.Ytmmaechogibodaa.Vm
open Go Go.RowKit

section
variable {P : Program} {A : Ctx} {w0 : World} {F : NS} {γ : GM} {s : St} {a : Act} {w : World}
theorem intsV_len : ∀ (ks : List IntKind) (r : List Int) (j : Nat), (intsV ks r j).length = ks.length
  | [], _, _ => rfl
  | k :: ks, r, j => by simp [intsV, intsV_len ks]
theorem intsV_of : ∀ (ks : List IntKind) (l : List CV) (r pre : List Int), intsOf ks l = some r → intsV ks (pre ++ r) pre.length = l
  | [], [], r, pre, h => rfl
  | k :: ks, c :: l, r, pre, h => by
    cases c with
    | val v =>
      cases v with
      | int k' x =>
        simp only [intsOf] at h
        split at h
        · rename_i e; subst e
          split at h
          · rename_i r' hr
            obtain rfl := Option.some.inj h
            have ih := intsV_of ks l r' (pre ++ [x]) hr
            simp only [List.append_assoc, List.singleton_append, List.length_append, List.length_singleton] at ih
            simp only [intsV, ih, nth_eq]
            congr 3
            simp
          · cases h
        · cases h
      | _ => simp [intsOf] at h
    | _ => simp [intsOf] at h
  | [], _ :: _, r, pre, h => by simp [intsOf] at h
  | _ :: _, [], r, pre, h => by simp [intsOf] at h
/-- A block with other cells at a place. -/
def SetAt (blk q : Blk) (i j : Nat) (vs : List CV) : Prop :=
    q.len = blk.len ∧ q.n = blk.n ∧ q.tag = blk.tag ∧ (∀ i n, ptrOk blk i n → ptrOk q i n) ∧ (∀ k, k < vs.length → (blk.at i (j + k)).isSome = true) ∧
    ∀ i' j' c, q.at i' j' = some c → (i' = i ∧ j ≤ j' ∧ j' < j + vs.length ∧ vs[j' - j]? = some c) ∨
      (¬ (i' = i ∧ j ≤ j' ∧ j' < j + vs.length) ∧ blk.at i' j' = some c ∧ ∀ k, k < vs.length → i' * blk.n + j' ≠ i * blk.n + (j + k))
theorem setP_get : ∀ (l : List D) (n : Nat) (d : D) (k : Nat), nth d0 (setP l n d) k = if k = n then d else nth d0 l k
  | [], 0, d, k => by cases k <;> simp [setP, nth]
  | [], n + 1, d, k => by
    cases k with
    | zero => simp [setP, nth]
    | succ k => simp only [setP, nth, setP_get [] n d k]; simp
  | a :: l, 0, d, k => by cases k <;> simp [setP, nth]
  | a :: l, n + 1, d, k => by
    cases k with
    | zero => simp [setP, nth]
    | succ k => simp only [setP, nth, setP_get l n d k]; simp
theorem setDs_get : ∀ (vs : List D) (l : List D) (j k : Nat), nth d0 (setDs l j vs) k = if j ≤ k ∧ k < j + vs.length then nth d0 vs (k - j) else nth d0 l k
  | [], l, j, k => by rw [if_neg (by simp only [List.length_nil]; omega)]; rfl
  | d :: vs, l, j, k => by
    simp only [setDs, setDs_get vs, setP_get, List.length_cons]
    by_cases h : k = j
    · subst h
      rw [if_neg (by omega), if_pos rfl, if_pos (by omega), Nat.sub_self]; rfl
    · by_cases h2 : j + 1 ≤ k ∧ k < j + 1 + vs.length
      · rw [if_pos h2, if_pos (by omega), show k - j = (k - (j + 1)) + 1 by omega]; rfl
      · rw [if_neg h2, if_neg h, if_neg (by omega)]
theorem mul_inj {n : Nat} {i1 j1 i2 j2 : Nat} (a1 : j1 < n) (a2 : j2 < n) (e : i1 * n + j1 = i2 * n + j2) : i1 = i2 ∧ j1 = j2 := by
  have e1 : (i1 * n + j1) / n = i1 := by rw [Nat.mul_comm, Nat.mul_add_div (by omega), Nat.div_eq_of_lt a1]; rfl
  have e2 : (i2 * n + j2) / n = i2 := by rw [Nat.mul_comm, Nat.mul_add_div (by omega), Nat.div_eq_of_lt a2]; rfl
  have : i1 = i2 := by rw [← e1, ← e2, e]
  subst this
  exact ⟨rfl, by omega⟩
theorem set_grow {l lj : List Sh} {xs : List (List D)} {i j sz : Nat} {vs : List D} (hi : i < xs.length) (hc : cut l j sz = some lj) (hv : vs.length = sz) (hz : sz ≠ 0) :
    SetAt (.grow l xs) (.grow l (xs.set i (setDs (nth [] xs i) j vs))) i j (dtsL lj vs 0) := by
  obtain ⟨c1, c2, c3⟩ := cut_spec _ _ _ _ hc
  have c2 : j + sz ≤ l.length := c2.resolve_left hz
  refine ⟨by simp [Blk.len], rfl, rfl, fun i' n' h' => ⟨h'.1, by simpa using h'.2⟩, fun k hk => ?_, fun i' j' c hc' => ?_⟩
  · rw [dtsL_len, c1] at hk
    simp only [Blk.at, if_pos hi, dtsL_get]
    rw [List.getElem?_eq_getElem (by omega)]; rfl
  · rw [dtsL_len, c1]
    simp only [Blk.at, List.length_set] at hc' ⊢
    split at hc'
    · rename_i hi'
      have hj' : j' < l.length := by have := (List.getElem?_eq_some_iff.1 hc').1; rwa [dtsL_len] at this
      by_cases e : i' = i
      · subst e
        have hn : nth [] (xs.set i' (setDs (nth [] xs i') j vs)) i' = setDs (nth [] xs i') j vs := by rw [nth_eq, List.getD_eq_getElem?_getD, List.getElem?_set]; simp [hi]
        rw [hn, dtsL_get, Nat.zero_add, setDs_get, hv] at hc'
        by_cases hin : j ≤ j' ∧ j' < j + sz
        · left
          rw [if_pos hin] at hc'
          refine ⟨rfl, hin.1, hin.2, ?_⟩
          rw [dtsL_get, c3 _ (by omega), Nat.zero_add, show j + (j' - j) = j' by omega]; exact hc'
        · right
          rw [if_neg hin] at hc'
          refine ⟨fun h => hin ⟨h.2.1, h.2.2⟩, by rw [if_pos hi', dtsL_get, Nat.zero_add]; exact hc', fun k hk e => ?_⟩
          simp only [Blk.n, len_eq] at e
          have := (mul_inj hj' (by omega) e).2
          omega
      · right
        have hn : nth [] (xs.set i (setDs (nth [] xs i) j vs)) i' = nth [] xs i' := by
          simp only [nth_eq, List.getD_eq_getElem?_getD, List.getElem?_set, if_neg (Ne.symm e)]
        rw [hn] at hc'
        refine ⟨fun h => e h.1, by rw [if_pos hi']; exact hc', fun k hk e' => ?_⟩
        simp only [Blk.n, len_eq] at e'
        exact e (mul_inj hj' (by omega) e').1
    · cases hc'
theorem set_mem {L l : List Sh} {ds vs : List D} {j : Nat} (hL : ∀ k, k < l.length → L[j + k]? = l[k]?) (hv : vs.length = l.length) (hz : l.length ≠ 0) :
    SetAt (.mem L ds) (.mem L (setDs ds j vs)) 0 j (dtsL l vs 0) := by
  refine ⟨rfl, rfl, rfl, fun i' n' h' => h', fun k hk => ?_, fun i' j' c hc' => ?_⟩
  · rw [dtsL_len] at hk
    simp only [Blk.at, dtsL_get]
    rw [if_pos trivial, hL k hk, List.getElem?_eq_getElem hk]; rfl
  · rw [dtsL_len]
    simp only [Blk.at] at hc' ⊢
    split at hc'
    · rename_i hi'
      subst hi'
      rw [dtsL_get, Nat.zero_add, setDs_get, hv] at hc'
      by_cases hin : j ≤ j' ∧ j' < j + l.length
      · left
        rw [if_pos hin] at hc'
        refine ⟨rfl, hin.1, hin.2, ?_⟩
        rw [dtsL_get, ← hL _ (by omega), Nat.zero_add, show j + (j' - j) = j' by omega]; exact hc'
      · right
        rw [if_neg hin] at hc'
        refine ⟨fun h => hin ⟨h.2.1, h.2.2⟩, by rw [if_pos rfl, dtsL_get, Nat.zero_add]; exact hc', fun k hk e => ?_⟩
        simp only [Blk.n, Nat.zero_mul, Nat.zero_add] at e
        omega
    · cases hc'
theorem set_memw {L : List Sh} {ds vs : List D} : SetAt (.mem L ds) (.mem L vs) 0 0 (dtsL L vs 0) := by
  refine ⟨rfl, rfl, rfl, fun i' n' h' => h', fun k hk => ?_, fun i' j' c hc' => ?_⟩
  · rw [dtsL_len] at hk
    simp only [Blk.at, dtsL_get, Nat.zero_add]
    rw [if_pos trivial, List.getElem?_eq_getElem hk]; rfl
  · simp only [Blk.at] at hc' ⊢
    split at hc'
    · rename_i hi'
      subst hi'
      have := (List.getElem?_eq_some_iff.1 hc').1
      left
      exact ⟨rfl, Nat.zero_le _, by omega, by rw [Nat.sub_zero]; exact hc'⟩
    · cases hc'
theorem set_at {blk q : Blk} {i j nn : Nat} {vs : List CV} (hp : ptrOk blk i nn) (h : blk.set i j vs = some q) (hne : vs.length ≠ 0) : SetAt blk q i j vs := by
  cases blk with
  | grow l xs => simp [Blk.set] at h
  | mem l xs => simp [Blk.set] at h
  | map kk vk xs => simp [Blk.set] at h
  | cells l =>
    obtain ⟨rfl, rfl⟩ := hp
    simp only [Blk.set] at h
    split at h
    · rename_i q' hq
      obtain rfl := Option.some.inj h
      obtain ⟨h1, h2, h3⟩ := over_spec l j vs q' hq
      have h2 : j + vs.length ≤ l.length := by rcases h2 with rfl | h2 <;> simp at * <;> omega
      refine ⟨rfl, rfl, rfl, fun _ _ h => h, fun k hk => ?_, fun i' j' c hc => ?_⟩
      · simp [Blk.at]; omega
      · simp only [Blk.at] at hc ⊢
        split at hc
        · rename_i hi; subst hi
          rw [h3 j'] at hc
          split at hc
          · rename_i hj; exact .inl ⟨rfl, hj.1, hj.2, hc⟩
          · rename_i hj; exact .inr ⟨by simp; omega, by simpa using hc, fun k hk => by simp [Blk.n]; omega⟩
        · cases hc
    · cases h
  | row k xs =>
    obtain ⟨rfl, hi⟩ := hp
    simp only [Blk.set] at h
    split at h
    · rename_i x hx
      obtain rfl := Option.some.inj h
      have hv := intsV_of [k] vs [x] [] hx
      simp only [intsV, List.nil_append, List.length_nil, nth] at hv
      subst hv
      refine ⟨by simp [Blk.len], rfl, rfl, fun i' n' h' => ⟨h'.1, by simpa using h'.2⟩, fun q hq => ?_, fun i' j' c hc => ?_⟩
      · simp at hq; subst hq; simp [Blk.at, hi]
      · simp only [Blk.at, List.length_set, nth_eq] at hc ⊢
        split at hc
        · rename_i hj
          obtain ⟨rfl, hj⟩ := hj
          by_cases e : i' = i
          · subst e
            left
            refine ⟨rfl, Nat.le_refl _, by simp, ?_⟩
            simp [hj] at hc ⊢; exact hc
          · right
            refine ⟨fun h => e h.1, ?_, fun q hq => by simp at hq; simp [Blk.n]; omega⟩
            rw [if_pos ⟨rfl, hj⟩]
            simpa [List.getD_eq_getElem?_getD, List.getElem?_set, Ne.symm e, e] using hc
        · cases hc
    · cases h
  | recs ks xs =>
    obtain ⟨rfl, hi⟩ := hp
    simp only [Blk.set] at h
    split at h
    · rename_i kk hkk
      split at h
      · rename_i r hr
        split at h
        · rename_i q' hq
          split at h
          · rename_i r' hr'
            obtain rfl := Option.some.inj h
            have hv := intsV_of ks q' r' [] hr'
            simp only [List.nil_append, List.length_nil] at hv
            obtain ⟨h1, h2, h3⟩ := over_spec _ j vs q' hq
            rw [intsV_len] at h1 h2
            have h2 : j + vs.length ≤ ks.length := by rcases h2 with rfl | h2 <;> simp at * <;> omega
            have inj : ∀ i1 j1 i2 j2 : Nat, j1 < ks.length → j2 < ks.length → i1 * ks.length + j1 = i2 * ks.length + j2 → i1 = i2 ∧ j1 = j2 := by
              intro i1 j1 i2 j2 a1 a2 e
              have e1 : (i1 * ks.length + j1) / ks.length = i1 := by rw [Nat.mul_comm, Nat.mul_add_div (by omega), Nat.div_eq_of_lt a1]; rfl
              have e2 : (i2 * ks.length + j2) / ks.length = i2 := by rw [Nat.mul_comm, Nat.mul_add_div (by omega), Nat.div_eq_of_lt a2]; rfl
              have : i1 = i2 := by rw [← e1, ← e2, e]
              subst this
              exact ⟨rfl, by omega⟩
            refine ⟨by simp [Blk.len], rfl, rfl, fun i' n' h' => ⟨h'.1, by simpa using h'.2⟩, fun q hq => ?_, fun i' j' c hc => ?_⟩
            · simp [Blk.at, hi, intsV_len]; omega
            · simp only [Blk.at, List.length_set, nth_eq] at hc ⊢
              split at hc
              · rename_i hj
                by_cases e : i' = i
                · subst e
                  simp only [List.getD_eq_getElem?_getD, List.getElem?_set, if_true, hi, Option.getD_some] at hc
                  rw [hv, h3 j'] at hc
                  split at hc
                  · rename_i hj'; exact .inl ⟨rfl, hj'.1, hj'.2, hc⟩
                  · rename_i hj'
                    rw [nth_eq] at hc
                    refine .inr ⟨by simp; omega, by rw [if_pos hj]; exact hc, fun k hk e => ?_⟩
                    simp only [Blk.n, len_eq] at e
                    have := (List.getElem?_eq_some_iff.1 hc).1
                    rw [intsV_len] at this
                    have := (inj _ _ _ _ this (by omega) e).2
                    omega
                · right
                  have hc' : (intsV ks (xs.getD i' []) 0)[j']? = some c := by simpa [List.getD_eq_getElem?_getD, List.getElem?_set, Ne.symm e, e] using hc
                  refine ⟨fun h => e h.1, by rw [if_pos hj]; exact hc', fun k hk e' => ?_⟩
                  simp only [Blk.n, len_eq] at e'
                  have := (List.getElem?_eq_some_iff.1 hc').1
                  rw [intsV_len] at this
                  exact e (inj _ _ _ _ this (by omega) e').1
              · cases hc
          · cases h
        · cases h
      · cases h
    · cases h
/-- A world in which one block alone has turned. -/
structure WSet (g : Nat) (w w' : World) : Prop where
  os : w'.os = w.os
  tape : w'.tape = w.tape
  output : w'.output = w.output
  size : w'.heap.size = w.heap.size
  other : ∀ k, k ≠ g → w'.heap[k]? = w.heap[k]?
theorem wset_setRow (w : World) (g : Nat) (cs : Array Value) : WSet g w (w.setRow g cs) := ⟨rfl, rfl, rfl, by simp, fun k hk => setRow_other w g k cs hk⟩
theorem Bel.set {I : Nat → Prop} {B : Nat} {a w w' : World} (h : Bel I B a w) {g : Nat} (hB : B ≤ g ∨ I g) (k : WSet g w w') (hst : WStep w w') : Bel I B a w' :=
  ⟨k.os.trans h.os, k.tape.trans h.tape, k.output.trans h.output, by rw [k.size]; exact h.size, fun i hi hn => (k.other i fun e => by subst e; exact hB.elim (fun h => by omega) hn).trans (h.block i hi hn), h.wst.trans hst⟩
theorem wstep_setRow {w : World} {g : Nat} {old cs : Array Value} {t : TF} (hg : w.heap[g]? = some (.cells old t.1 t.2)) (hs : cs.size = old.size) : WStep w (w.setRow g cs) := fun k c t' h => by
  by_cases e : k = g
  · subst e
    rw [hg] at h
    simp only [Option.some.injEq, Obj.cells.injEq] at h
    obtain ⟨rfl, _, _⟩ := h
    exact ⟨cs, t, setRow_heap w k old cs t.1 t.2 hg, by omega⟩
  · exact ⟨c, t', (setRow_other w g k cs e).trans h, Nat.le_refl _⟩
/-- A block that is owned, written. -/
theorem Mem.write {m : MM} {rt : List Nat} (M : Mem A w0 F γ m rt w) {b g base : Nat} {e : Ent} {blk' : Blk} {w' : World} (he : m b = some e) (ho : e.own = true) (hγ : γ b = some (g, base)) (hw : WSet g w w') (hst : WStep w w')
    (hlen : blk'.len = e.blk.len) (hn : blk'.n = e.blk.n) (htag : blk'.tag = e.blk.tag) (hp : ∀ i n, ptrOk e.blk i n → ptrOk blk' i n) (hfr : Vm.nofr w' g)
    (hmap : ∀ kk vk es, blk' = .map kk vk es → ∃ ents clock, w'.heap[g]? = some (.map ents clock) ∧ mapOk kk vk es ents clock)
    (hB : MStep F γ m w F γ (updM m [(b, some ⟨true, blk'⟩)]) w' → RelB F γ (updM m [(b, some ⟨true, blk'⟩)]) w' b blk') :
    MStep F γ m w F γ (updM m [(b, some ⟨true, blk'⟩)]) w' ∧ Mem A w0 F γ (updM m [(b, some ⟨true, blk'⟩)]) rt w' := by
  have hm : ∀ q x, updM m [(b, some ⟨true, blk'⟩)] q = some x → (q = b ∧ x = ⟨true, blk'⟩) ∨ (q ≠ b ∧ m q = some x) := by
    intro q x hx
    rw [updM_one] at hx
    by_cases hq : q = b
    · rw [if_pos hq] at hx; exact .inl ⟨hq, (Option.some.inj hx).symm⟩
    · rw [if_neg hq] at hx; exact .inr ⟨hq, hx⟩
  have hown := M.own b e g base he ho hγ
  have hzg : ∀ g', F.z g' → g' ≠ g := fun g' hz e' => by subst e'; exact (M.zok g' hz).2.2 b e base he ho hγ
  have ms : MStep F γ m w F γ (updM m [(b, some ⟨true, blk'⟩)]) w' :=
    ⟨fun _ h => h, fun _ _ => rfl, fun q x _ hx => by
      rcases hm q x hx with ⟨rfl, rfl⟩ | ⟨_, h1⟩
      · exact ⟨e, he, hlen.symm, hn.symm, htag.symm, hp⟩
      · exact ⟨x, h1, rfl, rfl, rfl, fun _ _ h => h⟩, hst, fun _ h => h, fun g' hz => hw.other g' (hzg g' hz)⟩
  have hoth : ∀ q x g' base', q ≠ b → m q = some x → γ q = some (g', base') → w'.heap[g']? = w.heap[g']? := fun q x g' base' hq hx hg => hw.other g' (hown.2 q x g' base' hq hx hg)
  refine ⟨ms, M.below.set hown.1 hw hst, fun q x hx => ?_, fun q x g' base' hx hxo hq => ?_, fun q x g' base' hx hxo hq => ?_, fun q x g' base' hx hxo hq => ?_, fun q x g' base' hx hq => ?_, fun q o kk vk es g' base' hx hq => ?_, fun g' hz => ?_, M.rts⟩
  · rcases hm q x hx with ⟨rfl, rfl⟩ | ⟨h0, h1⟩
    · exact ⟨(M.memr q e he).1, hB ms⟩
    · exact ⟨(M.memr q x h1).1, (M.memr q x h1).2.step ms rfl fun g' base' hg => hoth q x g' base' h0 h1 hg⟩
  · have src : ∀ q x, updM m [(b, some ⟨true, blk'⟩)] q = some x → ∃ y, m q = some y ∧ (x.own = true → y.own = true) := fun q x hx => by
      rcases hm q x hx with ⟨rfl, rfl⟩ | ⟨_, h1⟩
      · exact ⟨e, he, fun _ => ho⟩
      · exact ⟨x, h1, id⟩
    obtain ⟨y, h1, h2⟩ := src q x hx
    obtain ⟨k1, k2⟩ := M.own q y g' base' h1 (h2 hxo) hq
    exact ⟨k1, fun q' x' g2 base2 hne hx' hq' => let ⟨y', h1', _⟩ := src q' x' hx'; k2 q' y' g2 base2 hne h1' hq'⟩
  · rcases hm q x hx with ⟨rfl, rfl⟩ | ⟨h0, h1⟩
    · rw [hγ] at hq
      obtain ⟨rfl, rfl⟩ : g = g' ∧ base = base' := by simpa using hq
      exact hfr
    · exact (M.nofr q x g' base' h1 hxo hq).of (hoth q x g' base' h0 h1 hq)
  · rcases hm q x hx with ⟨rfl, rfl⟩ | ⟨h0, h1⟩
    · cases hxo
    · exact M.shr q x g' base' h1 hxo hq
  · rw [hw.size]
    rcases hm q x hx with ⟨rfl, rfl⟩ | ⟨h0, h1⟩
    · exact M.bnd q e g' base' he hq
    · exact M.bnd q x g' base' h1 hq
  · rcases hm q _ hx with ⟨rfl, h0⟩ | ⟨h0, h1⟩
    · rw [hγ] at hq
      obtain ⟨rfl, rfl⟩ : g = g' ∧ base = base' := by simpa using hq
      exact hmap kk vk es (by simp only [Ent.mk.injEq] at h0; exact h0.2.symm)
    · obtain ⟨ents, clock, k1, k2⟩ := M.maps q o kk vk es g' base' h1 hq
      exact ⟨ents, clock, (hoth q _ g' base' h0 h1 hq).trans k1, k2⟩
  · obtain ⟨k1, k2, k3⟩ := M.zok g' hz
    refine ⟨by rw [hw.size]; exact k1, k2, fun q x base' hx hxo hq => ?_⟩
    rcases hm q x hx with ⟨rfl, rfl⟩ | ⟨h0, h1⟩
    · exact k3 q e base' he ho hq
    · exact k3 q x base' h1 hxo hq
theorem nofr.row {w : World} {g : Nat} {cs cs' : Array Value} {t : TF} (h : nofr w g) (hg : w.heap[g]? = some (.cells cs t.1 t.2)) (hs : cs'.size = cs.size) : nofr (w.setRow g cs') g := fun c t' hx => by
  rw [setRow_heap w g cs cs' t.1 t.2 hg] at hx
  simp only [Option.some.injEq, Obj.cells.injEq] at hx
  obtain ⟨rfl, h1, h2⟩ := hx
  rw [← h2, hs]
  exact h cs t hg
theorem Rel.store (R : Rel A w0 F γ s a w) {b g base : Nat} {e : Ent} {cs cs' : Array Value} {t : TF} {blk' : Blk} (he : s.mem b = some e) (ho : e.own = true) (hγ : γ b = some (g, base)) (hg : w.heap[g]? = some (.cells cs t.1 t.2))
    (hsz : cs'.size = cs.size) (hlen : blk'.len = e.blk.len) (hn : blk'.n = e.blk.n) (htag : blk'.tag = e.blk.tag) (hnm : ∀ kk vk es, blk' ≠ .map kk vk es) (hp : ∀ i n, ptrOk e.blk i n → ptrOk blk' i n)
    (hB : ∀ i j c, blk'.at i j = some c → ∃ V, cs'[base + (i * blk'.n + j)]? = some V ∧ RelC F γ s.mem w c V) (dst : Option Tmp) :
    Rel A w0 F γ (s.app dst ⟨undefS, [(b, some ⟨true, blk'⟩)]⟩) (a.put dst undef) (w.setRow g cs') := by
  obtain ⟨ms, M⟩ := R.toMem.write (blk' := blk') he ho hγ (wset_setRow w g cs') (wstep_setRow hg hsz) hlen hn htag hp ((R.nofr b e g base he ho hγ).row hg hsz) (fun kk vk es h => absurd h (hnm kk vk es)) fun ms i j c hc => by
    obtain ⟨V, v1, v2⟩ := hB i j c hc
    exact ⟨g, base, cs', t, V, hγ, setRow_heap w g cs cs' t.1 t.2 hg, v1, v2.step ms⟩
  exact R.put (o := ⟨undefS, [(b, some ⟨true, blk'⟩)]⟩) ms rfl M
/-- Cells that are not frozen, written. -/
theorem run_storeCells_nofr (P : Program) (g o : Nat) (t : TF) : ∀ (vs : List Value) (i : Nat) (cur : Array Value) (w : World), w.heap[g]? = some (.cells cur t.1 t.2) → nofr w g → o + i + vs.length ≤ cur.size → (∀ v ∈ vs, v.oneCell' = true) →
    (storeCells ⟨g, o, none⟩ vs i).run P w = .ok () (w.setRow g (cur.toList.take (o + i) ++ vs ++ cur.toList.drop (o + i + vs.length)).toArray)
  | [], i, cur, w, hg, _, _, _ => by
    simp only [storeCells, List.append_nil, List.length_nil, Nat.add_zero, List.take_append_drop, Array.toArray_toList]
    rw [setRow_self w g cur t.1 t.2 hg]
    rfl
  | v :: rest, i, cur, w, hg, hf, hl, h1 => by
    have hi : o + i < cur.size := by simp at hl; omega
    have hadd : (⟨g, o, none⟩ : Addr).add i = ⟨g, o + i, none⟩ := by unfold Addr.add; split <;> simp_all
    have hcell : w.cell? ⟨g, o + i, none⟩ = some cur[o + i] := by simp [World.cell?, hg, hi]
    have hfro : w.frozen? ⟨g, o + i, none⟩ = false := by
      obtain ⟨t1, lo, hi⟩ := t
      have := hf cur (t1, lo, hi) hg
      simp only at this hg
      simp only [World.frozen?, hg]
      simp only [Bool.and_eq_false_iff, decide_eq_false_iff_not]
      omega
    have hst : (store ((⟨g, o, none⟩ : Addr).add i) v).run P w = .ok () (w.setRow g (cur.setIfInBounds (o + i) v)) := by
      rw [hadd, run_store P w _ v _ (h1 v (by simp)), hcell]
      simp [hfro, setCell_eq_setRow w g (o + i) cur t.1 t.2 v hg]
    have ih := run_storeCells_nofr P g o t rest (i + 1) (cur.setIfInBounds (o + i) v) (w.setRow g (cur.setIfInBounds (o + i) v)) (setRow_heap w g cur _ t.1 t.2 hg) (hf.row hg (by simp)) (by simp at hl ⊢; omega) (fun x hx => h1 x (by simp [hx]))
    simp only [storeCells, Sem.run_bind, hst, Result.andThen_ok, ih, setRow_setRow]
    congr 3
    have e := list_seg_step cur.toList (o + i) v rest (by simp at hl ⊢; omega)
    simpa [Array.toList_setIfInBounds, Nat.add_assoc] using e
theorem seg_get (cs : Array Value) (o : Nat) (vs : List Value) (h : o + vs.length ≤ cs.size) (k : Nat) :
    ((cs.toList.take (o + 0) ++ vs ++ cs.toList.drop (o + 0 + vs.length)).toArray)[k]? = if o ≤ k ∧ k < o + vs.length then vs[k - o]? else cs[k]? := by
  simp only [Nat.add_zero, List.getElem?_toArray, List.append_assoc]
  have hl : (cs.toList.take o).length = o := by simp; omega
  by_cases h1 : k < o
  · rw [List.getElem?_append_left (by omega), if_neg (by omega), List.getElem?_take, if_pos h1]; simp
  · rw [List.getElem?_append_right (by omega), hl]
    by_cases h2 : k < o + vs.length
    · rw [List.getElem?_append_left (by omega), if_pos ⟨by omega, h2⟩]
    · rw [List.getElem?_append_right (by omega), if_neg (by omega), List.getElem?_drop, show o + vs.length + (k - o - vs.length) = k by omega]; simp
/-- Updates one behind the other. -/
theorem updM_append : ∀ (l l' : List (Nat × Option Ent)) (m : MM), updM m (l ++ l') = updM (updM m l) l'
  | [], l', m => rfl
  | (q, e) :: l, l', m => updM_append l l' _
/-- Blocks of memory that are written no more. -/
def addZ (F : NS) (γ : GM) (b : Nat) : NS := { F with z := fun g => F.z g ∨ ∃ base, γ b = some (g, base) }
theorem Mem.freeze1 {m : MM} {rt : List Nat} (M : Mem A w0 F γ m rt w) {b : Nat} {o : Bool} {blk : Blk} (he : m b = some ⟨o, blk⟩) :
    MStep F γ m w (addZ F γ b) γ (updM m [(b, some ⟨false, blk⟩)]) w ∧ Mem A w0 (addZ F γ b) γ (updM m [(b, some ⟨false, blk⟩)]) rt w := by
  have hm : ∀ q x, updM m [(b, some ⟨false, blk⟩)] q = some x → ∃ y, m q = some y ∧ y.blk = x.blk ∧ (x.own = true → y.own = true ∧ q ≠ b) := by
    intro q x hx
    rw [updM_one] at hx
    by_cases hq : q = b
    · rw [if_pos hq] at hx; subst hq; obtain rfl := Option.some.inj hx; exact ⟨_, he, rfl, fun h => by cases h⟩
    · rw [if_neg hq] at hx; exact ⟨x, hx, rfl, fun h => ⟨h, hq⟩⟩
  have ms : MStep F γ m w (addZ F γ b) γ (updM m [(b, some ⟨false, blk⟩)]) w :=
    ⟨fun _ h => h, fun _ _ => rfl, fun q x _ hx => let ⟨y, h1, h2, _⟩ := hm q x hx; ⟨y, h1, by rw [h2], by rw [h2], by rw [h2], fun _ _ h => h2 ▸ h⟩, WStep.refl w, fun _ h => .inl h, fun _ _ => rfl⟩
  refine ⟨ms, M.below, fun q x hx => ?_, fun q x g base hx hxo hq => ?_, fun q x g base hx hxo hq => ?_, fun q x g base hx hxo hq => ?_, fun q x g base hx hq => ?_, fun q o' kk vk es g base hx hq => ?_, fun g hz => ?_, M.rts⟩
  · obtain ⟨y, h1, h2, _⟩ := hm q x hx
    rw [← h2]
    exact ⟨(M.memr q y h1).1, (M.memr q y h1).2.step ms rfl fun _ _ _ => rfl⟩
  · obtain ⟨y, h1, h2, h3⟩ := hm q x hx
    obtain ⟨k1, k2⟩ := M.own q y g base h1 (h3 hxo).1 hq
    exact ⟨k1, fun q' x' g' base' hne hx' hg' => let ⟨y', h1', _⟩ := hm q' x' hx'; k2 q' y' g' base' hne h1' hg'⟩
  · obtain ⟨y, h1, h2, h3⟩ := hm q x hx
    exact M.nofr q y g base h1 (h3 hxo).1 hq
  · rw [updM_one] at hx
    by_cases hqb : q = b
    · subst hqb; exact .inr ⟨base, hq⟩
    · rw [if_neg hqb] at hx; exact .inl (M.shr q x g base hx hxo hq)
  · obtain ⟨y, h1, _⟩ := hm q x hx
    exact M.bnd q y g base h1 hq
  · obtain ⟨⟨o2, blk2⟩, h1, h2, _⟩ := hm q _ hx
    simp only at h2
    subst h2
    exact M.maps q o2 kk vk es g base h1 hq
  · rcases hz with hz | ⟨base, hz⟩
    · obtain ⟨k1, k2, k3⟩ := M.zok g hz
      exact ⟨k1, k2, fun q x base' hx hxo hq => let ⟨y, h1, _, h3⟩ := hm q x hx; k3 q y base' h1 (h3 hxo).1 hq⟩
    · refine ⟨M.bnd b _ g base he hz, ?_, fun q x base' hx hxo hq => ?_⟩
      · cases o with
        | true => exact (M.own b _ g base he rfl hz).1.elim (fun h => .inr (.inl h)) fun h => .inr (.inr h)
        | false => exact (M.zok g (M.shr b _ g base he rfl hz)).2.1
      · obtain ⟨y, h1, _, h3⟩ := hm q x hx
        obtain ⟨h4, h5⟩ := h3 hxo
        exact (M.own q y g base' h1 h4 hq).2 b _ g base (fun e => h5 e.symm) he hz rfl
theorem Mem.freezeL {rt : List Nat} : ∀ (L : List (Nat × Option Ent)) {F : NS} {m : MM}, Mem A w0 F γ m rt w → (∀ b x, (b, x) ∈ L → ∃ o blk, m b = some ⟨o, blk⟩ ∧ x = some ⟨false, blk⟩) →
    ∃ F', F'.f = F.f ∧ MStep F γ m w F' γ (updM m L) w ∧ Mem A w0 F' γ (updM m L) rt w
  | [], F, m, M, _ => ⟨F, rfl, MStep.refl, M⟩
  | (b, x) :: L, F, m, M, h => by
    obtain ⟨o, blk, h1, rfl⟩ := h b x (by simp)
    obtain ⟨ms, M1⟩ := M.freeze1 h1
    have e1 : updM m ((b, some ⟨false, blk⟩) :: L) = updM (updM m [(b, some ⟨false, blk⟩)]) L := updM_append [(b, some ⟨false, blk⟩)] L m
    obtain ⟨F', k1, k2, k3⟩ := Mem.freezeL L M1 fun q y hq => by
      obtain ⟨o2, blk2, j1, j2⟩ := h q y (by simp [hq])
      by_cases e : q = b
      · subst e
        rw [h1] at j1
        simp only [Option.some.injEq, Ent.mk.injEq] at j1
        exact ⟨false, blk, by rw [updM_one, if_pos rfl], by rw [j2, j1.2]⟩
      · exact ⟨o2, blk2, by rw [updM_one, if_neg e]; exact j1, j2⟩
    refine ⟨F', k1, ?_, ?_⟩
    · rw [e1]; exact ms.trans k2
    · rw [e1]; exact k3
theorem frz_spec (m : MM) : ∀ (l : List Nat) (b : Nat) (x : Option Ent), (b, x) ∈ frz m l → b ∈ l ∧ ∃ blk, m b = some ⟨true, blk⟩ ∧ x = some ⟨false, blk⟩
  | [], b, x, h => by simp [frz] at h
  | c :: l, b, x, h => by
    simp only [frz] at h
    split at h
    · rename_i blk hc
      rcases List.mem_cons.1 h with h | h
      · obtain ⟨rfl, rfl⟩ := Prod.mk.inj h; exact ⟨by simp, blk, hc, rfl⟩
      · obtain ⟨h1, h2⟩ := frz_spec m l b x h; exact ⟨by simp [h1], h2⟩
    · obtain ⟨h1, h2⟩ := frz_spec m l b x h; exact ⟨by simp [h1], h2⟩
/-- Blocks frozen. -/
theorem Rel.frz (R : Rel A w0 F γ s a w) (l : List Nat) : ∃ F', F'.f = F.f ∧ MStep F γ s.mem w F' γ (updM s.mem (Vm.frz s.mem l)) w ∧ Rel A w0 F' γ { s with mem := updM s.mem (Vm.frz s.mem l) } a w := by
  obtain ⟨F', h1, h2, h3⟩ := Mem.freezeL (Vm.frz s.mem l) R.toMem fun b x h => let ⟨_, blk, h1, h2⟩ := frz_spec s.mem l b x h; ⟨true, blk, h1, h2⟩
  exact ⟨F', h1, h2, { h3 with defers := R.defers, size := R.size, slots := fun t => (R.slots t).step h2 }⟩
theorem updM_not : ∀ (l : List (Nat × Option Ent)) (m : MM) (b : Nat), (∀ x, (b, x) ∉ l) → updM m l b = m b
  | [], m, b, _ => rfl
  | (q, e) :: l, m, b, h => by
    simp only [updM]
    rw [updM_not l _ b fun x hx => h x (by simp [hx])]
    have : b ≠ q := fun e' => h e (by simp [e'])
    simp [this]
theorem mem?_spec {x : Nat} : ∀ {l : List Nat}, mem? x l = false → x ∉ l
  | [], _ => by simp
  | y :: l, h => by
    simp only [mem?] at h
    split at h
    · cases h
    · rename_i hne
      simp only [List.mem_cons, not_or]
      exact ⟨by simpa using hne, mem?_spec h⟩
theorem shInts_get : ∀ (ks : List IntKind) (j : Nat), (shInts ks)[j]? = (ks[j]?).map .int
  | [], j => by simp [shInts]
  | k :: ks, 0 => by simp [shInts]
  | k :: ks, j + 1 => by simp [shInts, shInts_get ks j]
theorem shInts_len : ∀ (ks : List IntKind), (shInts ks).length = ks.length
  | [] => rfl
  | k :: ks => by simp [shInts, shInts_len ks]
theorem intsV_get : ∀ (ks : List IntKind) (r : List Int) (j k : Nat), (intsV ks r j)[k]? = (ks[k]?).map fun q => .val (.int q (nth 0 r (j + k)))
  | [], r, j, k => by simp [intsV]
  | q :: ks, r, j, 0 => by simp [intsV]
  | q :: ks, r, j, k + 1 => by simp only [intsV, List.getElem?_cons_succ, intsV_get ks]; rw [show j + 1 + k = j + (k + 1) by omega]
theorem intsD_get : ∀ (ks : List IntKind) (r : List Int) (j k : Nat), k < ks.length → nth d0 (intsD ks r j) k = .i (nth 0 r (j + k))
  | [], r, j, k, h => by simp at h
  | q :: ks, r, j, 0, h => by simp [intsD, nth]
  | q :: ks, r, j, k + 1, h => by simp only [intsD, nth]; rw [intsD_get ks r (j + 1) k (by simpa using h), show j + 1 + k = j + (k + 1) by omega]
/-- The data of a block's members are what its cells hold. -/
theorem blkD_spec {l : List Sh} {blk : Blk} {x : List (List D)} (h : blkD l blk = some x) : blk.len = x.length ∧ blk.n = l.length ∧
    ∀ (i j : Nat) (r : List D) (sh : Sh), x[i]? = some r → l[j]? = some sh → ∃ c, blk.at i j = some c ∧ ∀ (F : NS) (γ : GM) (m : MM) (w : World) (V : Value), RelC F γ m w c V → Deep F.z w sh (nth d0 r j) V := by
  cases blk with
  | cells cs => simp [blkD] at h
  | mem l ds => simp [blkD] at h
  | map kk vk es => simp [blkD] at h
  | row k xs =>
    simp only [blkD] at h
    split at h
    · rename_i hl
      obtain rfl := shsEq_spec hl
      obtain rfl := Option.some.inj h
      refine ⟨by simp [Blk.len], rfl, fun i j r sh hr hs => ?_⟩
      rw [List.getElem?_map] at hr
      cases hx : xs[i]? with
      | none => rw [hx] at hr; cases hr
      | some y =>
        rw [hx] at hr
        obtain rfl := Option.some.inj hr
        have hi := (List.getElem?_eq_some_iff.1 hx).1
        cases j with
        | succ j => simp at hs
        | zero =>
          simp only [List.getElem?_cons_zero, Option.some.injEq] at hs
          subst hs
          refine ⟨_, by simp only [Blk.at]; rw [if_pos ⟨trivial, hi⟩], fun F γ m w V hV => ?_⟩
          obtain rfl : V = .int k (nth 0 xs i) := hV
          have : nth 0 xs i = y := by rw [nth_eq, List.getD_eq_getElem?_getD, hx]; rfl
          rw [this]; exact .int _ _
    · cases h
  | recs ks xs =>
    simp only [blkD] at h
    split at h
    · rename_i hl
      obtain rfl := shsEq_spec hl
      obtain rfl := Option.some.inj h
      refine ⟨by simp [Blk.len], by simp [Blk.n, len_eq, shInts_len], fun i j r sh hr hs => ?_⟩
      rw [List.getElem?_map] at hr
      cases hx : xs[i]? with
      | none => rw [hx] at hr; cases hr
      | some y =>
        rw [hx] at hr
        obtain rfl := Option.some.inj hr
        have hi := (List.getElem?_eq_some_iff.1 hx).1
        rw [shInts_get] at hs
        cases hk : ks[j]? with
        | none => rw [hk] at hs; cases hs
        | some q =>
          rw [hk] at hs
          obtain rfl := Option.some.inj hs
          refine ⟨_, by simp only [Blk.at]; rw [if_pos hi, intsV_get, hk]; rfl, fun F γ m w V hV => ?_⟩
          obtain rfl : V = .int q (nth 0 (nth [] xs i) (0 + j)) := hV
          have : nth [] xs i = y := by rw [nth_eq, List.getD_eq_getElem?_getD, hx]; rfl
          rw [this, intsD_get ks y 0 j (List.getElem?_eq_some_iff.1 hk).1]; exact .int _ _
    · cases h
  | grow l' xs =>
    simp only [blkD] at h
    split at h
    · rename_i hl
      obtain rfl := shsEq_spec hl
      obtain rfl := Option.some.inj h
      refine ⟨by simp [Blk.len], by simp [Blk.n, len_eq], fun i j r sh hr hs => ?_⟩
      have hi := (List.getElem?_eq_some_iff.1 hr).1
      refine ⟨_, by simp only [Blk.at]; rw [if_pos hi, dtsL_get, hs]; rfl, fun F γ m w V hV => ?_⟩
      have hV : Deep F.z w sh (nth d0 (nth [] xs i) (0 + j)) V := hV
      have : nth [] xs i = r := by rw [nth_eq, List.getD_eq_getElem?_getD, hr]; rfl
      rwa [this, Nat.zero_add] at hV
    · cases h
/-- A slice of a block that nobody writes any more, by its data. -/
theorem slice_deep {m : MM} {rt : List Nat} (M : Mem A w0 F γ m rt w) {b off n : Nat} {blk : Blk} {l : List Sh} {x : List (List D)} {V : Value} (he : m b = some ⟨false, blk⟩) (hx : blkD l blk = some x) (hs : slcOk γ w b off n blk.n V) (hn : off + n ≤ blk.len) :
    Deep F.z w (.sl l) (.l ((x.drop off).take n)) V := by
  obtain ⟨h1, h2, h3⟩ := blkD_spec hx
  rcases hs with ⟨rfl, a0, rfl⟩ | ⟨g, base, cap, k1, rfl, k3, cs, t, k4, k5⟩
  · have : (x.drop off).take 0 = [] := by simp
    rw [this]; exact .nil _ _ _
  · have hl : ((x.drop off).take n).length = n := by simp; omega
    rw [h2] at k5 ⊢
    have hcs : base + off * l.length + n * l.length ≤ cs.size := by
      have : (off + n) * l.length ≤ (off + cap) * l.length := Nat.mul_le_mul_right _ (by omega)
      rw [Nat.add_mul] at this; omega
    have := Deep.sl (z := F.z) (w := w) l ((x.drop off).take n) g (base + off * l.length) cap cs t (M.shr b _ g base he rfl k1) k4 (by rw [hl]; exact k3) (by rw [hl]; exact hcs) (fun i j r sh V hr hs hV => by
      have hi : i < n := by have := (List.getElem?_eq_some_iff.1 hr).1; omega
      rw [List.getElem?_take, if_pos hi, List.getElem?_drop] at hr
      obtain ⟨c, c1, c2⟩ := h3 (off + i) j r sh hr hs
      obtain ⟨g', base', cs', t', V', v1, v2, v3, v4⟩ := (M.memr b _ he).2 (off + i) j c c1
      rw [k1] at v1
      obtain ⟨rfl, rfl⟩ : g = g' ∧ base = base' := by simpa using v1
      rw [k4] at v2
      obtain ⟨rfl, rfl⟩ : cs = cs' ∧ t = t' := by simpa [Prod.ext_iff] using v2
      have e : base + off * l.length + (i * l.length + j) = base + ((off + i) * blk.n + j) := by rw [h2, Nat.add_mul]; omega
      rw [e, v3] at hV
      obtain rfl := Option.some.inj hV
      exact c2 _ _ _ _ _ v4)
    rwa [hl] at this
/-- A cell's datum is what it holds. -/
theorem toD_deep {m : MM} {rt : List Nat} (M : Mem A w0 F γ m rt w) {h : Sh} {c : CV} {d : D} {V : Value} (hd : toD m h c = some d) (hV : RelC F γ m w c V) : Deep F.z w h d V := by
  unfold toD at hd
  split at hd
  · split at hd
    · rename_i e; subst e; obtain rfl := Option.some.inj hd; obtain rfl : V = _ := hV; exact .int _ _
    · cases hd
  · obtain rfl := Option.some.inj hd; obtain rfl : V = _ := hV; exact .bool _
  · obtain rfl := Option.some.inj hd; obtain rfl : V = _ := hV; exact .str _
  · split at hd
    · rename_i e; obtain rfl := shsEq_spec e; obtain rfl := Option.some.inj hd; exact hV
    · cases hd
  · obtain rfl := Option.some.inj hd; obtain rfl : V = _ := hV; exact .nil _ _ _
  · split at hd
    · rename_i blk he
      split at hd
      · rename_i x hx
        obtain rfl := Option.some.inj hd
        have h1 := blkD_spec hx
        have := slice_deep M he hx (hV.2.2 _ he) (by simp)
        rwa [h1.1, List.drop_zero, List.take_length] at this
      · cases hd
    · cases hd
  · split at hd
    · rename_i blk he
      split at hd
      · rename_i x hx
        obtain rfl := Option.some.inj hd
        obtain ⟨k1, k2, _⟩ := hV.2.2 _ he
        exact slice_deep M he hx k2 k1
      · cases hd
    · cases hd
  · cases hd
theorem toDs_deep {m : MM} {rt : List Nat} (M : Mem A w0 F γ m rt w) : ∀ {l : List Sh} {cs : List CV} {ds : List D} {Vs : List Value}, toDs m l cs = some ds → All2 (RelC F γ m w) cs Vs → ds.length = l.length ∧ Vs.length = l.length ∧ DeepR F.z w l ds fun j => Vs[j]?
  | [], [], ds, [], h, _ => by simp only [toDs, Option.some.injEq] at h; subst h; exact ⟨rfl, rfl, fun j sh hj => by simp at hj⟩
  | h :: l, c :: cs, ds, V :: Vs, hd, hr => by
    simp only [toDs] at hd
    split at hd
    · rename_i d h1
      split at hd
      · rename_i r h2
        obtain rfl := Option.some.inj hd
        obtain ⟨k1, k2, k3⟩ := toDs_deep M h2 hr.2
        refine ⟨by simp [k1], by simp [k2], fun j sh hj => ?_⟩
        cases j with
        | zero => simp at hj; subst hj; exact ⟨V, rfl, toD_deep M h1 hr.1⟩
        | succ j =>
          obtain ⟨V', j1, j2⟩ := k3 j sh (by simpa using hj)
          exact ⟨V', by simpa using j1, j2⟩
      · cases hd
    · cases hd
  | [], _ :: _, ds, _, h, _ => by simp [toDs] at h
  | _ :: _, [], ds, _, h, _ => by simp [toDs] at h
  | [], [], ds, _ :: _, _, hr => hr.elim
  | _ :: _, _ :: _, ds, [], _, hr => hr.elim
/-- Data as cells of a block. -/
theorem deepR_dts {m : MM} {z : Nat → Prop} (hz : ∀ g, z g → F.z g) {l : List Sh} {ds : List D} {Vs : List Value} (h : DeepR z w l ds fun j => Vs[j]?) (hl : Vs.length = l.length) : All2 (RelC F γ m w) (dtsL l ds 0) Vs :=
  All2.of_get (by rw [dtsL_len, hl]) fun k c V hc hV => by
    rw [dtsL_get, Nat.zero_add] at hc
    cases hk : l[k]? with
    | none => rw [hk] at hc; cases hc
    | some sh =>
      rw [hk] at hc
      obtain rfl := Option.some.inj hc
      obtain ⟨V', k1, k2⟩ := h k sh hk
      have k1 : Vs[k]? = some V' := k1
      rw [hV] at k1
      obtain rfl := Option.some.inj k1
      exact k2.step (z' := F.z) hz fun _ _ => rfl
/-- Cells of a block, written. -/
theorem store_core (R : Rel A w0 F γ s a w) {b g base i j sz : Nat} {e : Ent} {blk' : Blk} {t : TypeId} {vs : List CV} {Y : Value} (he : s.mem b = some e) (ho : e.own = true) (hγ : γ b = some (g, base)) (hset : SetAt e.blk blk' i j vs) (hnm : ∀ kk vk es, blk' ≠ .map kk vk es)
    (hsz : sizeT P t = some sz) (hvs : vs.length = sz) (hz : sz ≠ 0) (c1 : All2 (RelC F γ s.mem w) vs Y.cells.toList) (c2 : ∀ v ∈ Y.cells.toList, v.oneCell' = true) (dst : Option Tmp) :
    ∃ w', (storeVar t ⟨g, base + (i * e.blk.n + j), none⟩ Y).run P w = .ok () w' ∧ Rel A w0 F γ (s.app dst ⟨undefS, [(b, some ⟨true, blk'⟩)]⟩) (a.put dst undef) w' := by
  have hvl : Y.cells.toList.length = sz := by rw [← c1.length, hvs]
  obtain ⟨s1, s2, s6, s3, s4, s5⟩ := hset
  have hB := (R.memr b _ he).2
  obtain ⟨c0, hc0⟩ := Option.isSome_iff_exists.1 (s4 0 (by omega))
  obtain ⟨g0, base0, cs, t', V0, k1, k2, k3, k4⟩ := hB i (j + 0) c0 hc0
  rw [hγ] at k1
  obtain ⟨rfl, rfl⟩ : g = g0 ∧ base = base0 := by simpa using k1
  have hfit : base + (i * e.blk.n + j) + sz ≤ cs.size := by
    obtain ⟨c1', hc1'⟩ := Option.isSome_iff_exists.1 (s4 (sz - 1) (by omega))
    obtain ⟨g0, base0, cs2, t2, V1, q1, q2, q3, q4⟩ := hB i (j + (sz - 1)) c1' hc1'
    rw [hγ] at q1
    obtain ⟨rfl, rfl⟩ : g = g0 ∧ base = base0 := by simpa using q1
    rw [k2] at q2
    obtain ⟨rfl, rfl⟩ : cs = cs2 ∧ t' = t2 := by simpa [Prod.ext_iff] using q2
    have := (Array.getElem?_eq_some_iff.1 q3).1
    omega
  have hrun := run_storeCells_nofr P g (base + (i * e.blk.n + j)) t' Y.cells.toList 0 cs w k2 (R.nofr b _ g base he ho hγ) (by omega) c2
  refine ⟨_, ?_, R.store he ho hγ k2 (cs' := (cs.toList.take (base + (i * e.blk.n + j) + 0) ++ Y.cells.toList ++ cs.toList.drop (base + (i * e.blk.n + j) + 0 + Y.cells.toList.length)).toArray) ?_ s1 s2 s6 hnm s3 ?_ dst⟩
  · have : Y.cells.size = sz := by simpa using hvl
    simp only [storeVar, Sem.run_bind, Result.andThen_ok, sSize hsz, this, ne_eq, not_true, if_false, Sem.run_pure]
    exact hrun
  · simp; simp at hvl; omega
  · intro i' j' c hc
    rw [seg_get cs _ _ (by omega)]
    rcases s5 i' j' c hc with ⟨rfl, e1, e2, e3⟩ | ⟨e1, e2, e3⟩
    · obtain ⟨V, v1, v2⟩ := c1.get _ c e3
      refine ⟨V, ?_, v2⟩
      rw [s2, if_pos ⟨by omega, by omega⟩, show base + (i' * e.blk.n + j') - (base + (i' * e.blk.n + j)) = j' - j by omega]
      exact v1
    · obtain ⟨g0, base0, cs2, t2, V1, q1, q2, q3, q4⟩ := hB i' j' c e2
      rw [hγ] at q1
      obtain ⟨rfl, rfl⟩ : g = g0 ∧ base = base0 := by simpa using q1
      rw [k2] at q2
      obtain ⟨rfl, rfl⟩ : cs = cs2 ∧ t' = t2 := by simpa [Prod.ext_iff] using q2
      refine ⟨V1, ?_, q4⟩
      rw [s2, if_neg, q3]
      rintro ⟨f1, f2⟩
      exact e3 ((i' * e.blk.n + j') - (i * e.blk.n + j)) (by omega) (by omega)
theorem set_nomap {blk q : Blk} {i j : Nat} {vs : List CV} (h : blk.set i j vs = some q) : ∀ kk vk es, q ≠ .map kk vk es := fun kk vk es e => by
  subst e
  cases blk <;> simp only [Blk.set] at h <;> first | (cases h; done) | skip
  all_goals (repeat (split at h)) <;> simp at h
theorem frNew_spec {μ : MM} {b : Nat} {l : List Sh} {cs : List CV} {u : List (Nat × Option Ent)} {vs : List D} (h : frNew μ b l cs = some (u, vs)) : u = frz μ (frDs l cs) ∧ updM μ u b = μ b ∧ toDs (updM μ u) l cs = some vs := by
  unfold frNew at h
  split at h
  · cases h
  · rename_i hb
    split at h
    · rename_i vs' hvs
      obtain ⟨rfl, rfl⟩ := Prod.mk.inj (Option.some.inj h)
      exact ⟨rfl, updM_not _ _ _ fun x hx => mem?_spec hb (frz_spec μ _ b x hx).1, hvs⟩
    · cases h
theorem ok_store (R : Rel A w0 F γ s a w) {nid : Nat} {o : Oper} {out : Out} {t : TypeId} {x y : Operand} (ho : o.op = .store t x y) (h : (exStore P s.mem t (s.ev x) (s.ev y)).den = some out) : Sim P A w0 F γ nid s o out a w := by
  have hx := R.ev x
  have hy := R.ev y
  -- an address, a store that runs
  have fin : ∀ {g o' : Nat} {w' : World} {F' : NS}, F'.f = F.f → a.eval x = .pointer (some ⟨g, o', none⟩) → (storeVar t ⟨g, o', none⟩ (a.eval y)).run P w = .ok () w' → Rel A w0 F' γ (s.app o.dst out) (a.put o.dst undef) w' → Sim P A w0 F γ nid s o out a w := fun hF hv hst R' =>
    Sim.skip (by simp only [execOp, ho, hv, Instr.storeAt, Instr.sureAddr, Sem.run_bind, Sem.run_pure, Result.andThen_ok, hst]) R' (fun b hb => .inl (by rw [hF] at hb; exact hb)) ⟨fun b hb => by rw [hF]; exact hb, fun _ _ => rfl⟩
  unfold exStore at h
  split at h
  · rename_i b i n j p hp hq
    rw [hp] at hx; rw [hq] at hy
    split at h
    · rename_i blk sz he hsz
      split at h
      · rename_i hl
        obtain ⟨hl, hz, hok⟩ := hl
        rw [len_eq] at hl
        obtain ⟨c1, c2⟩ := cells_rel hy hok
        split at h
        · rename_i k xs hwr
          obtain ⟨rfl, hagg, rfl, rfl⟩ := wholeRow_spec hwr
          split at h
          · rename_i ys hys
            obtain ⟨hq, h⟩ := den_req h
            have hq : xs.length = sz := of_decide_eq_true hq
            simp [ret0, T.den] at h
            subst h
            obtain ⟨hcs, hyl⟩ := intsOf_rep _ _ _ hys
            obtain ⟨h1, ⟨g, base, h2, h3⟩, h4⟩ := hx
            obtain ⟨rfl, hpos⟩ := h4 _ he
            have hvl : (a.eval y).cells.toList.length = sz := by rw [← c1.length, hl]
            have hB := (R.memr b _ he).2
            simp only at hB
            obtain ⟨g0, base0, cs, t', V0, k1, k2, k3, k4⟩ := hB 0 0 (.val (.int k (nth 0 xs 0))) (by simp only [Blk.at]; rw [if_pos ⟨trivial, by omega⟩])
            rw [h2] at k1
            obtain ⟨rfl, rfl⟩ : g = g0 ∧ base = base0 := by simpa using k1
            have hfit : base + sz ≤ cs.size := by
              obtain ⟨g0, base0, cs2, t2, V1, q1, q2, q3, q4⟩ := hB (sz - 1) 0 (.val (.int k (nth 0 xs (sz - 1)))) (by simp only [Blk.at]; rw [if_pos ⟨trivial, by omega⟩])
              rw [h2] at q1
              obtain ⟨rfl, rfl⟩ : g = g0 ∧ base = base0 := by simpa using q1
              rw [k2] at q2
              obtain ⟨rfl, rfl⟩ : cs = cs2 ∧ t' = t2 := by simpa [Prod.ext_iff] using q2
              have := (Array.getElem?_eq_some_iff.1 q3).1
              simp [Blk.n] at this; omega
            have hrun := run_storeCells_nofr P g base t' (a.eval y).cells.toList 0 cs w k2 (R.nofr b _ g base he rfl h2) (by omega) c2
            have hs : (a.eval y).cells.size = sz := by simpa using hvl
            refine fin (w' := w.setRow g _) rfl h3 ?_ (R.store he rfl h2 k2 (cs' := (cs.toList.take (base + 0) ++ (a.eval y).cells.toList ++ cs.toList.drop (base + 0 + (a.eval y).cells.toList.length)).toArray) (blk' := .row k ys) ?_ (by simp [Blk.len]; omega) rfl rfl (fun _ _ _ h => by cases h) (fun i n hp => ⟨hp.1, by have := hp.2; omega⟩) ?_ o.dst)
            · rw [show base + (0 * 1 + 0) = base from rfl]
              simp only [storeVar, Sem.run_bind, Sem.run_pure, Result.andThen_ok, sSize hsz, hs, ne_eq, not_true, if_false]
              exact hrun
            · simp; simp at hvl; omega
            · intro i j c hc
              simp only [Blk.at] at hc
              split at hc
              · rename_i hij
                obtain ⟨rfl, hi⟩ := hij
                obtain rfl := Option.some.inj hc
                obtain ⟨V, v1, v2⟩ := c1.get i (.val (.int k (nth 0 ys i))) (by rw [hcs, List.getElem?_map, nth_eq, List.getD_eq_getElem?_getD, List.getElem?_eq_getElem hi]; rfl)
                refine ⟨V, ?_, v2⟩
                rw [seg_get cs _ _ (by omega)]
                simp only [Blk.n, Nat.mul_one, Nat.add_zero]
                rw [if_pos ⟨by omega, by omega⟩, show base + i - base = i by omega]
                exact v1
              · cases hc
          · exact (den_fail h).elim
        · obtain ⟨h1, ⟨g, base, h2, h3⟩, h4⟩ := hx
          have hpk := h4 _ he
          have hnn := ptr_n hpk
          simp only at hnn
          split at h
          · rename_i l xs _
            split at h
            · rename_i lj hlj
              split at h
              · rename_i u vs hfr
                simp [ret0, T.den] at h
                subst h
                obtain ⟨rfl, f2, f3⟩ := frNew_spec hfr
                obtain ⟨F', r1, r2, r3⟩ := R.frz (frDs lj (cellsPV p))
                have c1' : All2 (RelC F' γ (updM s.mem (Vm.frz s.mem (frDs lj (cellsPV p)))) w) (cellsPV p) (a.eval y).cells.toList := c1.mono fun _ _ => RelC.step r2
                obtain ⟨d1, d2, d3⟩ := toDs_deep r3.toMem f3 c1'
                obtain ⟨cc1, cc2, cc3⟩ := cut_spec _ _ _ _ hlj
                have he' : updM s.mem (Vm.frz s.mem (frDs lj (cellsPV p))) b = some ⟨true, .grow l xs⟩ := f2.trans he
                obtain ⟨w', k1, k2⟩ := store_core (P := P) (t := t) r3 he' rfl h2 (set_grow hpk.2 hlj (by rw [d1, cc1]) hz) (fun _ _ _ h => by cases h) hsz (by rw [dtsL_len, cc1]) hz (deepR_dts (fun _ h => h) d3 d2) c2 o.dst
                have e : s.app o.dst ⟨undefS, Vm.frz s.mem (frDs lj (cellsPV p)) ++ [(b, some ⟨true, .grow l (xs.set i (setDs (nth [] xs i) j vs))⟩)]⟩ = St.app { s with mem := updM s.mem (Vm.frz s.mem (frDs lj (cellsPV p))) } o.dst ⟨undefS, [(b, some ⟨true, .grow l (xs.set i (setDs (nth [] xs i) j vs))⟩)]⟩ := by
                  simp only [St.app, updM_append]
                refine fin (w' := w') r1 h3 ?_ (by rw [e]; exact k2)
                rw [hnn]; exact k1
              · exact (den_fail h).elim
            · exact (den_fail h).elim
          · split at h
            · rename_i blk' hset
              simp [ret0, T.den] at h
              subst h
              obtain ⟨w', k1, k2⟩ := store_core (P := P) (t := t) R he rfl h2 (set_at hpk hset (by omega)) (set_nomap hset) hsz hl hz c1 c2 o.dst
              refine fin (w' := w') rfl h3 ?_ k2
              rw [hnn]; exact k1
            · exact (den_fail h).elim
      · exact (den_fail h).elim
    · exact (den_fail h).elim
  · rename_i b j l p hp hq
    rw [hp] at hx; rw [hq] at hy
    split at h
    · rename_i L ds n he hsz
      obtain ⟨h1, ⟨g, base, h2, h3⟩, h4⟩ := hx
      obtain ⟨L', hL', hLl⟩ := h4 _ he
      obtain rfl : L = L' := Option.some.inj hL'
      split at h
      · rename_i l' ds' hw
        split at h
        · rename_i hll
          obtain rfl := shsEq_spec hll
          simp [ret0, T.den] at h
          subst h
          simp only [Bool.and_eq_true, beq_iff_eq, len_eq] at hw
          obtain ⟨hw, rfl, _⟩ := hw
          obtain ⟨cs, hcs, k2, k3⟩ := hy
          have hY : (a.eval y).cells = cs := by rw [hcs]; rfl
          by_cases hz : n = 0
          · subst hz
            have hl0 : l' = [] := List.eq_nil_of_length_eq_zero hw
            subst hl0
            have hc0 : cs.size = 0 := by rw [k2]; rfl
            refine fin (w' := w) (F' := F) rfl h3 ?_ ?_
            · have hcl : cs.toList = [] := List.eq_nil_of_length_eq_zero (by simpa using hc0)
              simp only [storeVar, Sem.run_bind, Sem.run_pure, Result.andThen_ok, sSize hsz, hY, hc0, ne_eq, not_true, if_false, hcl, storeCells]
            · obtain ⟨ms, M⟩ := R.toMem.write (w' := w) (blk' := .mem [] ds') he rfl h2 ⟨rfl, rfl, rfl, rfl, fun _ _ => rfl⟩ (WStep.refl w) rfl rfl rfl (fun _ _ h => h) (R.nofr b _ g base he rfl h2) (fun _ _ _ h => by cases h) fun ms i' j' c hc => by
                simp only [Blk.at] at hc
                split at hc
                · simp [dtsL] at hc
                · cases hc
              exact R.put (o := ⟨undefS, [(b, some ⟨true, .mem [] ds'⟩)]⟩) ms rfl M
          · have c2 := (cells_rel (γ := γ) (m := s.mem) (p := .dat l' ds') ⟨cs, hcs, k2, k3⟩ rfl).2
            obtain ⟨w', q1, q2⟩ := store_core (P := P) (t := t) (Y := a.eval y) R he rfl h2 (set_memw (vs := ds')) (fun _ _ _ h => by cases h) hsz (by rw [dtsL_len]; exact hw) hz (deepR_dts (fun _ h => h) (by rw [hY]; simpa using k3) (by rw [hY]; simpa using k2)) c2 o.dst
            exact fin (w' := w') rfl h3 (by simpa [Blk.n] using q1) q2
        · exact (den_fail h).elim
      · rename_i p _ _ _
        split at h
        · rename_i hl
          obtain ⟨hl, hz, hok⟩ := hl
          rw [len_eq] at hl
          obtain ⟨c1, c2⟩ := cells_rel hy hok
          split at h
          · rename_i u vs hfr
            simp [ret0, T.den] at h
            subst h
            obtain ⟨rfl, f2, f3⟩ := frNew_spec hfr
            obtain ⟨F', r1, r2, r3⟩ := R.frz (frDs l (cellsPV p))
            have c1' : All2 (RelC F' γ (updM s.mem (Vm.frz s.mem (frDs l (cellsPV p)))) w) (cellsPV p) (a.eval y).cells.toList := c1.mono fun _ _ => RelC.step r2
            obtain ⟨d1, d2, d3⟩ := toDs_deep r3.toMem f3 c1'
            have he' : updM s.mem (Vm.frz s.mem (frDs l (cellsPV p))) b = some ⟨true, .mem L ds⟩ := f2.trans he
            obtain ⟨w', k1, k2⟩ := store_core (P := P) (t := t) r3 he' rfl h2 (set_mem (l := l) (vs := vs) hLl d1 (by omega)) (fun _ _ _ h => by cases h) hsz (by rw [dtsL_len]; exact hl) hz (deepR_dts (fun _ h => h) d3 d2) c2 o.dst
            have e : s.app o.dst ⟨undefS, Vm.frz s.mem (frDs l (cellsPV p)) ++ [(b, some ⟨true, .mem L (setDs ds j vs)⟩)]⟩ = St.app { s with mem := updM s.mem (Vm.frz s.mem (frDs l (cellsPV p))) } o.dst ⟨undefS, [(b, some ⟨true, .mem L (setDs ds j vs)⟩)]⟩ := by
              simp only [St.app, updM_append]
            refine fin (w' := w') r1 h3 ?_ (by rw [e]; exact k2)
            simpa [Blk.n] using k1
          · exact (den_fail h).elim
        · exact (den_fail h).elim
    · exact (den_fail h).elim
  · exact (den_fail h).elim
end
end Go.Proofs.Ytmmaechogibodaa.Vm

/- Regions whose order is drawn: whatever the order is. Conditions: the program follows the model's mixed orders. -/
import Derived.Test.YtmmaechogibodaaVmS
set_option linter.unusedVariables false
set_option linter.unusedSimpArgs false
namespace Go.Proofs.Ytmmaechogibodaa.Vm
open Go Go.RowKit

section
variable {P : Program} {A : Ctx} {w0 : World} {F : NS} {γ : GM} {s : St} {a : Act} {w : World}
theorem wpOp_of_step {ops : Array Oper} {Q : Exit → Act → World → Prop} {i : Nat} {o : Oper} (ho : ops[i]? = some o) {K : Act → World → Prop} (h : Step P ops o a w K Q) : wpOp P ops Q i K a w := by
  unfold Go.wpOp
  simp only [ho]
  unfold Step at h
  split
  · rename_i hw; rw [if_pos hw] at h; exact .inl h
  · rename_i hw; rw [if_neg hw] at h; exact h
theorem least (p : Nat → Bool) : ∀ n i : Nat, i < n → p i = true → ∃ k, k < n ∧ p k = true ∧ ∀ j, j < k → p j = false
  | 0, i, h, _ => by omega
  | n + 1, i, h, hp => by
    by_cases hex : ∃ j, j < n ∧ p j = true
    · obtain ⟨j, hj, hpj⟩ := hex
      obtain ⟨k, h1, h2, h3⟩ := least p n j hj hpj
      exact ⟨k, by omega, h2, h3⟩
    · refine ⟨i, h, hp, fun j hj => ?_⟩
      cases hpj : p j with
      | false => rfl
      | true => exact absurd ⟨j, by omega, hpj⟩ hex
theorem draw_any {env : FuncId → Option Spec} (hE : EnvOk P env) {ops : Array Oper} {ds : List Did} {nx : Nat} {s0 : St} {F0 : NS} {γ0 : GM} (hl : ds.length = ops.toList.length)
    (hcan : ∀ (j : Nat) (o : Oper) (d : Did), ops.toList[j]? = some o → ds[j]? = some d → (stepD1 P env ops.toList (nx + 64 * j) o (curL ops.toList ds 0 (fun k => decide (k < j)) s0)).den = some (d, (curL ops.toList ds 0 (fun k => decide (k < j)) s0).app o.dst d.out))
    (hfree : freeAll ops.toList ops.toList ds 0 = true) (hedge : edgesOk ops.toList 0 = true) {Q : Exit → Act → World → Prop}
    (hQ : ∀ a' w' F' γ', Rel A w0 F' γ' (curL ops.toList ds 0 (fun _ => true) s0) a' w' → (∀ b, F' b → b < nx + 64 * ops.toList.length) → Ext F0 γ0 F' γ' → Q .normal a' w') :
    ∀ (fuel : Nat) (listed : Array Bool) (a : Act) (w : World) (F : NS) (γ : GM), listed.size = ops.size → (List.range ops.size).countP (fun i => !listed.getD i true) ≤ fuel →
      (∀ (j : Nat) (o : Oper), listed.getD j false = true → ops[j]? = some o → ∀ e ∈ o.after, Region.binds .any e = true → listed.getD e.on false = true) →
      Rel A w0 F γ (curL ops.toList ds 0 (fun i => listed.getD i false) s0) a w → (∀ b, F b → b < nx ∨ ∃ i, listed.getD i false = true ∧ nx + 64 * i ≤ b ∧ b < nx + 64 * i + 64) → Ext F0 γ0 F γ →
      wpAny P .any ops Q fuel listed a w := by
  have hgd : ∀ (listed : Array Bool) (j : Nat), listed.size = ops.size → j < ops.size → listed.getD j true = listed.getD j false := fun listed j h1 h2 => by simp [Array.getD, h1, h2]
  -- all have come
  have done : ∀ (listed : Array Bool) (a : Act) (w : World) (F : NS) (γ : GM), listed.size = ops.size → (∀ j, j < ops.size → listed.getD j false = true) →
      Rel A w0 F γ (curL ops.toList ds 0 (fun i => listed.getD i false) s0) a w → (∀ b, F b → b < nx ∨ ∃ i, listed.getD i false = true ∧ nx + 64 * i ≤ b ∧ b < nx + 64 * i + 64) → Ext F0 γ0 F γ → Q .normal a w := by
    intro listed a w F γ hs hall R hF hx
    rw [curL_ext ops.toList ds 0 _ (fun _ => true) s0 fun j _ hj => hall j (by simpa using hj)] at R
    refine hQ a w F γ R (fun b hb => ?_) hx
    rcases hF b hb with h | ⟨i, h1, h2, h3⟩
    · omega
    · have hi : i < ops.size := by
        rcases Nat.lt_or_ge i listed.size with h' | h'
        · omega
        · simp [Array.getD, Nat.not_lt.2 h'] at h1
      have : ops.toList.length = ops.size := by simp
      omega
  have nonready : ∀ (listed : Array Bool), listed.size = ops.size → Region.ready .any ops listed = [] → ∀ j, j < ops.size → listed.getD j false = true := by
    intro listed hs hr j hj
    cases hlj : listed.getD j false with
    | true => rfl
    | false =>
      obtain ⟨k, k1, k2, k3⟩ := least (fun i => !listed.getD i false) ops.size j hj (by simp [hlj])
      have hk : k ∈ Region.ready .any ops listed := by
        rw [mem_ready]
        refine ⟨by rw [hgd listed k hs k1]; simpa using k2, ops[k], by simp [k1], fun e he hb => ?_⟩
        have hlt := edgesOk_spec ops.toList 0 hedge k ops[k] (by simp [k1]) e (by simpa using he) ((binds_eq e).symm.trans hb)
        have := k3 e.on (by omega)
        simpa using this
      rw [hr] at hk; cases hk
  intro fuel
  induction fuel with
  | zero =>
    intro listed a w F γ hs hc hcl R hF hx
    have hall : ∀ j, j < ops.size → listed.getD j false = true := by
      intro j hj
      have h0 : (List.range ops.size).countP (fun i => !listed.getD i true) = 0 := by omega
      have := (List.countP_eq_zero.1 h0) j (List.mem_range.2 hj)
      rw [hgd listed j hs hj] at this
      simpa using this
    refine ⟨?_, done listed a w F γ hs hall R hF hx⟩
    cases hr : Region.ready .any ops listed with
    | nil => rfl
    | cons i rs =>
      have hi : i ∈ Region.ready .any ops listed := by rw [hr]; simp
      obtain ⟨h1, o, ho, _⟩ := mem_ready.1 hi
      have hlt := (Array.getElem?_eq_some_iff.1 ho).1
      rw [hgd listed i hs hlt, hall i hlt] at h1
      cases h1
  | succ fuel ih =>
    intro listed a w F γ hs hc hcl R hF hx
    refine ⟨fun hr => done listed a w F γ hs (nonready listed hs hr) R hF hx, fun i hi => ?_⟩
    obtain ⟨h1, o, ho, hall⟩ := mem_ready.1 hi
    have hlt := (Array.getElem?_eq_some_iff.1 ho).1
    have hli : listed.getD i false = false := by rw [← hgd listed i hs hlt]; exact h1
    have hoL : ops.toList[i]? = some o := by simpa using ho
    obtain ⟨d, hd⟩ : ∃ d, ds[i]? = some d := ⟨_, List.getElem?_eq_getElem (by rw [hl]; simpa using hlt)⟩
    -- who is listed behind i does not meet it
    have before : ∀ (j : Nat) (o' : Oper) (d' : Did), j < i → ops.toList[j]? = some o' → ds[j]? = some d' → listed.getD j false = false → apart ops.toList o' o d' d = true := fun j o' d' hj h2 h3 h4 => by
      rcases freeAll_spec _ _ 0 hfree j i o' d' o d hj h2 h3 hoL hd with hb | hb
      · exact hb
      · have := reach_listed (p := fun j => listed.getD j false) (fun j o h1 h2 => hcl j o h1 (by simpa using h2)) 8 o hall hb
        simp only [Nat.zero_add, h4] at this; cases this
    have behind : ∀ (j : Nat) (o' : Oper) (d' : Did), i < j → ops.toList[j]? = some o' → ds[j]? = some d' → listed.getD j false = true → apart ops.toList o o' d d' = true := fun j o' d' hj h2 h3 h4 => by
      rcases freeAll_spec _ _ 0 hfree i j o d o' d' hj hoL hd h2 h3 with hb | hb
      · exact hb
      · have := reach_listed (p := fun j => listed.getD j false) (fun j o h1 h2 => hcl j o h1 (by simpa using h2)) 8 o' (hcl j o' h4 (by simpa using h2)) hb
        simp only [Nat.zero_add, hli] at this; cases this
    have hdj : ∀ (j : Nat) (o' : Oper), ops.toList[j]? = some o' → ∃ d', ds[j]? = some d' := fun j o' h => ⟨_, List.getElem?_eq_getElem (by rw [hl]; exact (List.getElem?_eq_some_iff.1 h).1)⟩
    have hoj : ∀ (j : Nat) (d' : Did), ds[j]? = some d' → ∃ o', ops.toList[j]? = some o' := fun j d' h => ⟨_, List.getElem?_eq_getElem (by rw [← hl]; exact (List.getElem?_eq_some_iff.1 h).1)⟩
    have hstep := stepD_local (hcan i o d hoL hd) (s2 := curL ops.toList ds 0 (fun i => listed.getD i false) s0)
      (fun t ht => curL_slot t ops.toList ds 0 _ _ s0 s0 rfl rfl fun j o' ho' => by
        obtain ⟨d', hd'⟩ := hdj j o' ho'
        rw [Nat.zero_add]
        rcases Nat.lt_trichotomy j i with hj | hj | hj
        · cases hlj : listed.getD j false with
          | true => left; simp [hj]
          | false => right; intro e; exact (apart_spec (before j o' d' hj ho' hd' hlj)).1 t e ht
        · left; subst hj; simp [hli]
        · cases hlj : listed.getD j false with
          | false => left; simp; omega
          | true => right; intro e; exact (apart_spec (behind j o' d' hj ho' hd' hlj)).2.1 t e ht)
      (fun b hb => curL_mem b ops.toList ds 0 _ _ s0 s0 rfl fun j d' hd' => by
        obtain ⟨o', ho'⟩ := hoj j d' hd'
        rw [Nat.zero_add]
        rcases Nat.lt_trichotomy j i with hj | hj | hj
        · cases hlj : listed.getD j false with
          | true => left; simp [hj]
          | false => right; intro e; exact (apart_spec (before j o' d' hj ho' hd' hlj)).2.2.2.1 b e hb
        · left; subst hj; simp [hli]
        · cases hlj : listed.getD j false with
          | false => left; simp; omega
          | true => right; intro e; exact (apart_spec (behind j o' d' hj ho' hd' hlj)).2.2.2.2.1 b e hb)
    refine wpOp_of_step ho (stepD_ok hE R (nid := nx + 64 * i) (fun q h1 h2 hb => ?_) hstep fun a' w' F' γ' R' hF' hx' => ?_)
    · rcases hF q hb with h | ⟨k, hk, h3, h4⟩
      · omega
      · have : k = i := by omega
        subst this; rw [hli] at hk; cases hk
    · have hset : ∀ j, (listed.setIfInBounds i true).getD j false = if j = i then true else listed.getD j false := fun j => by
        by_cases hj : j = i
        · subst hj; simp [Array.getD, hs, hlt]
        · rw [if_neg hj, getD_set_ne false (Ne.symm hj)]
      have hcur : curL ops.toList ds 0 (fun j => (listed.setIfInBounds i true).getD j false) s0 = (curL ops.toList ds 0 (fun i => listed.getD i false) s0).app o.dst d.out :=
        curL_insert ops.toList ds 0 _ _ s0 i o d hoL hd (by rw [Nat.zero_add]; exact hli) (by rw [Nat.zero_add, hset, if_pos rfl]) (fun j hj => by rw [hset, if_neg (by omega)])
          fun j o' d' hj h2 h3 h4 => by
            rw [Nat.zero_add] at h4
            obtain ⟨_, _, q3, _, _, q6⟩ := apart_spec (behind j o' d' hj h2 h3 h4)
            exact ⟨fun t ht ht' => q3 t ht' ht, fun q hq hq' => q6 q hq' hq⟩
      refine ih (listed.setIfInBounds i true) a' w' F' γ' (by simpa using hs) ?_ ?_ (by rw [hcur]; exact R') ?_ (hx.trans hx')
      · have hdrop := countP_drop (fun j => !listed.getD j true) i (List.range ops.size) (List.mem_range.2 hlt) (by simp [h1])
        have e : (List.range ops.size).countP (fun j => !(listed.setIfInBounds i true).getD j true) = (List.range ops.size).countP (fun j => !listed.getD j true && (j != i)) := by
          apply List.countP_congr
          intro j hj
          by_cases hji : j = i
          · subst hji
            have : (listed.setIfInBounds j true).getD j true = true := by simp [Array.getD, hs, hlt]
            simp [this]
          · rw [getD_set_ne true (Ne.symm hji)]; simp [hji]
        rw [e]; omega
      · intro j o' hj ho' e he hbe
        rw [hset] at hj ⊢
        by_cases hji : j = i
        · subst hji
          rw [ho] at ho'; obtain rfl := Option.some.inj ho'
          have := hall e he hbe
          split <;> first | rfl | exact this
        · rw [if_neg hji] at hj
          have := hcl j o' hj ho' e he hbe
          split <;> first | rfl | exact this
      · intro b hb
        rcases hF' b hb with h | h
        · rcases hF b h with h | ⟨k, h2, h3, h4⟩
          · exact .inl h
          · exact .inr ⟨k, by rw [hset]; split <;> first | rfl | exact h2, h3, h4⟩
        · exact .inr ⟨i, by rw [hset, if_pos rfl], h.1, by omega⟩
theorem draw_ok (hmix : P.follows .mixedOrders = true) {env : FuncId → Option Spec} (hE : EnvOk P env) {id : Nat} {ops : Array Oper} {s' : St} (R : Rel A w0 F γ s a w) (hF : ∀ b, F b → b < s.nx) (h : (runDraw P env ops.toList s).den = some s') {Q : Exit → Act → World → Prop}
    (hQ : ∀ a' w' F' γ', Rel A w0 F' γ' s' a' w' → (∀ b, F' b → b < s'.nx) → Ext F γ F' γ' → Q .normal a' w') : (Code.region id ops true).wp P Q a w := by
  unfold runDraw at h
  rw [T.den_bind] at h
  cases hx : (runD P env ops.toList s.nx ops.toList 0 s).den with
  | none => rw [hx] at h; cases h
  | some y =>
    obtain ⟨ds, s1⟩ := y
    rw [hx] at h
    simp only [Option.bind_some] at h
    split at h
    case h_2 => exact (den_fail h).elim
    rename_i hok
    rw [Bool.and_eq_true] at hok
    simp only [T.den, Option.some.injEq] at h
    subst h
    obtain ⟨i1, i2, i3⟩ := runD_spec _ _ _ _ _ hx
    refine wp_region_any hmix ?_
    refine draw_any (s0 := s) (nx := s.nx) hE i1 (fun j o d h1 h2 => by have := i3 j o d h1 h2; rwa [Nat.zero_add] at this) hok.1 hok.2 (fun a' w' F' γ' R' hF' hx' => hQ a' w' F' γ' (by rw [i2]; exact R'.nx _) (fun b hb => by have := hF' b hb; simpa [len_eq] using this) hx') ops.size _ a _ F γ (by simp) ?_ ?_ ?_ (fun b hb => .inl (hF b hb)) (Ext.refl F γ)
    · exact Nat.le_trans List.countP_le_length (by simp)
    · intro j o hj; exfalso
      by_cases hjs : j < ops.size <;> simp [Array.getD, hjs] at hj
    · rw [curL_none _ _ _ _ _ fun j _ => by by_cases hjs : j < ops.size <;> simp [Array.getD, hjs]]
      exact R.drew
end
end Go.Proofs.Ytmmaechogibodaa.Vm

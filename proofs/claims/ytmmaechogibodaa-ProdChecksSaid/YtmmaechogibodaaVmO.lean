/- What an operation of the abstract interpreter looks at. Conditions: none here. -/
import Derived.Test.YtmmaechogibodaaVmN
set_option linter.unusedVariables false
set_option linter.unusedSimpArgs false
namespace Go.Proofs.Ytmmaechogibodaa.Vm
open Go Go.RowKit

section
variable {P : Program} {ρ ρ' : Operand → SV} {μ μ' : Nat → Option Ent}
theorem known_congr : ∀ (l : List Operand), (∀ x ∈ l, ρ x = ρ' x) → known ρ l = known ρ' l
  | [], _ => rfl
  | x :: l, h => by simp only [known, h x (by simp), known_congr l fun y hy => h y (by simp [hy])]
theorem exPure_congr {o : Oper} (hs : ∀ cs b, o.op ≠ .select cs b) (h : ∀ x ∈ o.op.operands.toList, ρ x = ρ' x) : exPure P ρ o = exPure P ρ' o := by
  unfold exPure
  rw [known_congr _ h, execOp_congr o hs (ρ := valOf ρ) (ρ' := valOf ρ') fun x hx => by unfold valOf; rw [h x (by simpa using hx)]]
theorem fillL_congr {pl : Nat → Option (Nat × Nat)} : ∀ (ps : List (Nat × Operand)) (cs : List CV), (∀ x ∈ ps.map (·.2), ρ x = ρ' x) → fillL pl ρ cs ps = fillL pl ρ' cs ps
  | [], cs, _ => rfl
  | (i, x) :: ps, cs, h => by
    simp only [fillL, h x (by simp)]
    split
    · split
      · split
        · rename_i q _; exact fillL_congr ps q fun y hy => h y (by simp at hy ⊢; exact .inr hy)
        · rfl
      · rfl
    · rfl
theorem rowL_congr {k : IntKind} : ∀ (ps : List (Nat × Operand)) (q : Nat), (∀ x ∈ ps.map (·.2), ρ x = ρ' x) → rowL k ρ ps q = rowL k ρ' ps q
  | [], q, _ => rfl
  | (i, x) :: ps, q, h => by simp only [rowL, h x (by simp), rowL_congr ps (q + 1) fun y hy => h y (by simp at hy ⊢; exact .inr hy)]
theorem recL_congr {k : List IntKind} : ∀ (ps : List (Nat × Operand)) (q : Nat), (∀ x ∈ ps.map (·.2), ρ x = ρ' x) → recL k ρ ps q = recL k ρ' ps q
  | [], q, _ => rfl
  | (i, x) :: ps, q, h => by simp only [recL, h x (by simp), recL_congr ps (q + 1) fun y hy => h y (by simp at hy ⊢; exact .inr hy)]
theorem boundV_congr {d : Int} {x : Option Operand} (h : ∀ y, x = some y → ρ y = ρ' y) : boundV ρ d x = boundV ρ' d x := by
  cases x with
  | none => rfl
  | some y => simp only [boundV, h y rfl]
theorem exLoad_congr {t : TypeId} {x : SV} (h : ∀ b ∈ idsS x, μ b = μ' b) : exLoad P μ t x = exLoad P μ' t x := by
  unfold exLoad
  split
  · rename_i b i n j; rw [h b (by simp [idsS, idsP, idsC])]
  · rfl
  · rename_i b j l; rw [h b (by simp [idsS, idsP, idsC])]
  · rfl
theorem updM_of : ∀ (l : List (Nat × Option Ent)) (m : MM) (b : Nat), updM m l b = m b ∨ (b, updM m l b) ∈ l
  | [], m, b => .inl rfl
  | (q, e) :: l, m, b => by
    simp only [updM]
    rcases updM_of l (fun c => if c == q then e else m c) b with h | h
    · by_cases hq : b = q
      · subst hq
        rw [h]
        simp
      · rw [h]
        have : (b == q) = false := by simpa using hq
        simp [this]
    · exact .inr (List.mem_cons_of_mem _ h)
/-- Behind a freezing: the same block. -/
theorem frz_get {m : MM} {l : List Nat} {b : Nat} {e : Ent} (h : updM m (frz m l) b = some e) : ∃ e0, m b = some e0 ∧ e.blk = e0.blk := by
  rcases updM_of (frz m l) m b with h1 | h1
  · exact ⟨e, h1 ▸ h, rfl⟩
  · rw [h] at h1
    obtain ⟨_, blk, h2, h3⟩ := frz_spec m l b _ h1
    obtain rfl := Option.some.inj h3
    exact ⟨_, h2, rfl⟩
theorem frz_congr : ∀ (l : List Nat), (∀ b ∈ l, μ b = μ' b) → frz μ l = frz μ' l
  | [], _ => rfl
  | b :: l, h => by simp only [frz, h b (by simp), frz_congr l fun c hc => h c (by simp [hc])]
theorem updM_at : ∀ (l : List (Nat × Option Ent)) (m m' : MM) (b : Nat), m b = m' b → updM m l b = updM m' l b
  | [], m, m', b, h => h
  | (q, e) :: l, m, m', b, h => updM_at l _ _ b (by show (if b == q then e else m b) = (if b == q then e else m' b); rw [h])
theorem frozen_congr {l : List Nat} (h : ∀ b ∈ l, μ b = μ' b) {b : Nat} (hb : μ b = μ' b) : updM μ (frz μ l) b = updM μ' (frz μ' l) b := by
  rw [frz_congr l h]; exact updM_at _ _ _ b hb
theorem toD_congr {h : Sh} {c : CV} (hc : ∀ b ∈ idsC c, μ b = μ' b) : toD μ h c = toD μ' h c := by
  cases h with
  | int k => cases c <;> first | rfl | (rename_i v; cases v <;> rfl)
  | bool => cases c <;> first | rfl | (rename_i v; cases v <;> rfl)
  | str => cases c <;> first | rfl | (rename_i v; cases v <;> rfl)
  | sl l =>
    cases c with
    | slf b => simp only [toD, hc b (by simp [idsC])]
    | slc b off n => simp only [toD, hc b (by simp [idsC])]
    | val v => cases v <;> first | rfl | (rename_i a l c; cases a <;> cases l <;> cases c <;> rfl)
    | _ => rfl
theorem toDs_congr : ∀ (l : List Sh) (cs : List CV), (∀ b ∈ idsCs cs, μ b = μ' b) → toDs μ l cs = toDs μ' l cs
  | [], [], _ => rfl
  | h :: l, c :: cs, hc => by simp only [toDs, toD_congr (h := h) (c := c) fun b hb => hc b (by simp [idsCs, hb]), toDs_congr l cs fun b hb => hc b (by simp [idsCs, hb])]
  | [], _ :: _, _ => rfl
  | _ :: _, [], _ => rfl
theorem frD_ids {h : Sh} {c : CV} : ∀ b ∈ frD h c, b ∈ idsC c := fun b hb => by
  unfold frD at hb
  split at hb
  · simpa [idsC] using hb
  · simpa [idsC] using hb
  · simp at hb
theorem frDs_ids : ∀ (l : List Sh) (cs : List CV), ∀ b ∈ frDs l cs, b ∈ idsCs cs
  | [], cs, b, hb => by simp [frDs] at hb
  | _ :: _, [], b, hb => by simp [frDs] at hb
  | h :: l, c :: cs, b, hb => by
    simp only [frDs, List.mem_append] at hb
    simp only [idsCs, List.mem_append]
    exact hb.imp (frD_ids b) (frDs_ids l cs b)
theorem cellsPV_ids (p : PV) : ∀ b ∈ idsCs (cellsPV p), b ∈ idsP p := fun b hb => by
  cases p with
  | one c => simpa [cellsPV, idsCs, idsP] using hb
  | agg l => exact hb
  | dat l ds =>
    have : ∀ (l : List Sh) (j : Nat), idsCs (cvsL l ds j) = [] := fun l => by
      induction l with
      | nil => intro j; rfl
      | cons h l ih => intro j; simp only [cvsL, idsCs, ih]; cases h <;> rfl
    rw [show cellsPV (.dat l ds) = cvsL l ds 0 from rfl, this] at hb
    simp at hb
theorem frNew_congr {b : Nat} {l : List Sh} {p : PV} (h : ∀ b ∈ idsP p, μ b = μ' b) : frNew μ b l (cellsPV p) = frNew μ' b l (cellsPV p) := by
  have h1 : ∀ c ∈ frDs l (cellsPV p), μ c = μ' c := fun c hc => h c (cellsPV_ids p c (frDs_ids _ _ c hc))
  have h2 := toDs_congr (μ := updM μ (frz μ (frDs l (cellsPV p)))) (μ' := updM μ' (frz μ' (frDs l (cellsPV p)))) l (cellsPV p) fun c hc => frozen_congr h1 (h c (cellsPV_ids p c hc))
  unfold frNew
  rw [h2, frz_congr _ h1]
theorem exStore_congr {t : TypeId} {a x : SV} (h : ∀ b ∈ idsS a, μ b = μ' b) (h' : ∀ b ∈ idsS x, μ b = μ' b) : exStore P μ t a x = exStore P μ' t a x := by
  unfold exStore
  split
  · rename_i b i n j p
    have hp : ∀ b l, frNew μ b l (cellsPV p) = frNew μ' b l (cellsPV p) := fun b l => frNew_congr (p := p) h'
    simp only [hp]
    rw [h b (by simp [idsS, idsP, idsC])]
  · rename_i b j l p
    have hp : ∀ b l, frNew μ b l (cellsPV p) = frNew μ' b l (cellsPV p) := fun b l => frNew_congr (p := p) h'
    simp only [hp]
    rw [h b (by simp [idsS, idsP, idsC])]
  · rfl
theorem growL_congr {l : List Sh} (hρ0 : True) : ∀ (ps : List (Nat × Operand)) (q : Nat), (∀ x ∈ ps.map (·.2), ρ x = ρ' x) → (∀ x ∈ ps.map (·.2), ∀ b ∈ idsS (ρ x), μ b = μ' b) → growL μ l ρ ps q = growL μ' l ρ' ps q
  | [], q, _, _ => rfl
  | (i, x) :: ps, q, h, h' => by
    have hx := h x (by simp)
    have ih := growL_congr (l := l) hρ0 ps (q + 1) (fun y hy => h y (by simp at hy ⊢; exact .inr hy)) fun y hy => h' y (by simp at hy ⊢; exact .inr hy)
    simp only [growL, ← hx, ih]
    split
    · split
      · rename_i p hp
        have := toDs_congr (μ := μ) (μ' := μ') l (cellsPV p) fun b hb => h' x (by simp) b (by rw [hp]; exact cellsPV_ids p b hb)
        rw [this]
      · rfl
    · rfl
theorem growFr_congr {l : List Sh} : ∀ (ps : List (Nat × Operand)), (∀ x ∈ ps.map (·.2), ρ x = ρ' x) → growFr l ρ ps = growFr l ρ' ps
  | [], _ => rfl
  | (i, x) :: ps, h => by simp only [growFr, h x (by simp), growFr_congr ps fun y hy => h y (by simp at hy ⊢; exact .inr hy)]
theorem growFr_ids {l : List Sh} : ∀ (ps : List (Nat × Operand)), ∀ b ∈ growFr l ρ ps, ∃ x ∈ ps.map (·.2), b ∈ idsS (ρ x)
  | [], b, hb => by simp [growFr] at hb
  | (i, x) :: ps, b, hb => by
    simp only [growFr, List.mem_append] at hb
    rcases hb with hb | hb
    · split at hb
      · rename_i p hp
        exact ⟨x, by simp, by rw [hp]; exact cellsPV_ids p b (frDs_ids _ _ b hb)⟩
      · simp at hb
    · obtain ⟨y, hy, hby⟩ := growFr_ids ps b hb
      exact ⟨y, by simp at hy ⊢; exact .inr hy, hby⟩
theorem exBuildSlice_congr {nid : Nat} {t : TypeId} {n : Nat} {parts : Array (Nat × Operand)} (h : ∀ x ∈ parts.toList.map (·.2), ρ x = ρ' x) (h' : ∀ x ∈ parts.toList.map (·.2), ∀ b ∈ idsS (ρ x), μ b = μ' b) : exBuildSlice P ρ μ nid t n parts = exBuildSlice P ρ' μ' nid t n parts := by
  have e3 : ∀ l : List Sh, growFr l ρ parts.toList = growFr l ρ' parts.toList := fun l => growFr_congr _ h
  have e4 : ∀ l : List Sh, ∀ b ∈ growFr l ρ parts.toList, μ b = μ' b := fun l b hb => let ⟨x, hx, hbx⟩ := growFr_ids parts.toList b hb; h' x hx b hbx
  have e5 : ∀ l : List Sh, growL (updM μ (frz μ (growFr l ρ parts.toList))) l ρ parts.toList 0 = growL (updM μ' (frz μ' (growFr l ρ' parts.toList))) l ρ' parts.toList 0 := fun l => by
    rw [← e3 l]
    exact growL_congr trivial _ 0 h fun x hx b hb => frozen_congr (e4 l) (h' x hx b hb)
  unfold exBuildSlice
  simp only [fun k q => rowL_congr (k := k) (ρ := ρ) (ρ' := ρ') parts.toList q h, fun k q => recL_congr (k := k) (ρ := ρ) (ρ' := ρ') parts.toList q h, e5]
  have e6 : ∀ l : List Sh, frz μ (growFr l ρ parts.toList) = frz μ' (growFr l ρ' parts.toList) := fun l => by rw [frz_congr _ (e4 l), e3 l]
  simp only [e6]
theorem exIndexAddr_congr {t : TypeId} {x ix : SV} (h : ∀ b ∈ idsS x, μ b = μ' b) : exIndexAddr P μ t x ix = exIndexAddr P μ' t x ix := by
  unfold exIndexAddr
  split
  · split
    · rename_i b _ _ _ _; rw [h b (by simp [idsS, idsP, idsC])]
    · rename_i b _; rw [h b (by simp [idsS, idsP, idsC])]
    · rename_i b _ _ _; rw [h b (by simp [idsS, idsP, idsC])]
    · rfl
    · rfl
    · rfl
  · rfl
theorem rdC_congr {p : CP} {c : CV} (h : ∀ b ∈ idsC c, μ b = μ' b) : rdC μ p c = rdC μ' p c := by
  have hro : ∀ l, rdC μ (.ro l) c = rdC μ' (.ro l) c := fun l => by simp only [rdC, toD_congr (h := .sl l) h]
  cases p with
  | ro l => exact hro l
  | _ =>
  cases c with
  | slf b => have := h b (by simp [idsC]); simp only [rdC, this]
  | slc b off l => have := h b (by simp [idsC]); simp only [rdC, this]
  | mapr b => have := h b (by simp [idsC]); simp only [rdC, this]
  | val v =>
    cases v with
    | func f a b =>
      rcases a with ⟨a⟩
      rcases b with ⟨b⟩
      cases f <;> cases a <;> cases b <;> rfl
    | pointer a => cases a <;> rfl
    | slice a l c => cases a <;> cases l <;> cases c <;> rfl
    | _ => rfl
  | _ => rfl
theorem rdCs_congr : ∀ (ps : List CP) (cs : List CV), (∀ b ∈ idsCs cs, μ b = μ' b) → rdCs μ ps cs = rdCs μ' ps cs
  | [], [], _ => rfl
  | p :: ps, c :: cs, h => by simp only [rdCs, rdC_congr (p := p) (c := c) fun b hb => h b (by simp [idsCs, hb]), rdCs_congr ps cs fun b hb => h b (by simp [idsCs, hb])]
  | [], _ :: _, _ => rfl
  | _ :: _, [], _ => rfl
/-- What is looked at by a value: blocks that it names, and those that cells of them name. -/
def Deepμ (μ : Nat → Option Ent) (l : List Nat) (b : Nat) : Prop := b ∈ l ∨ ∃ c ∈ l, ∃ o cs, μ c = some ⟨o, .cells cs⟩ ∧ b ∈ idsCs cs
theorem Deepμ.mono {l l' : List Nat} (h : ∀ b ∈ l, b ∈ l') {b : Nat} (hb : Deepμ μ l b) : Deepμ μ l' b :=
  hb.imp (h b) fun ⟨c, h1, h2⟩ => ⟨c, h c h1, h2⟩
theorem rdP_congr {p : PP} {c : PV} (h : ∀ b, Deepμ μ (idsP c) b → μ b = μ' b) : rdP μ p c = rdP μ' p c := by
  unfold rdP
  split
  · exact rdCs_congr _ _ (fun b hb => h b (.inl (by simpa [idsP, idsCs] using hb)))
  · exact rdCs_congr _ _ (fun b hb => h b (.inl (by simpa [idsP, idsCs] using hb)))
  · rename_i ps' b
    have hb := h b (.inl (by simp [idsP, idsC]))
    rw [← hb]
    split
    · rename_i cs hcs
      rw [rdCs_congr ps' cs fun d hd => h d (.inr ⟨b, by simp [idsP, idsC], true, cs, hcs, hd⟩)]
    · rfl
  · rename_i l b l'
    have hb := h b (.inl (by simp [idsP, idsC]))
    rw [← hb]
  · rfl
theorem rdPs_congr : ∀ (ps : List PP) (cs : List PV), (∀ b, Deepμ μ (idsPs cs) b → μ b = μ' b) → rdPs μ ps cs = rdPs μ' ps cs
  | [], [], _ => rfl
  | p :: ps, c :: cs, h => by simp only [rdPs, rdP_congr (p := p) (c := c) fun b hb => h b (hb.mono fun b hb => by simp [idsPs, hb]), rdPs_congr ps cs fun b hb => h b (hb.mono fun b hb => by simp [idsPs, hb])]
  | [], _ :: _, _ => rfl
  | _ :: _, [], _ => rfl
theorem frC_ids {p : CP} {c : CV} : ∀ b ∈ frC p c, b ∈ idsC c := fun b hb => by
  unfold frC at hb
  split at hb
  · exact frD_ids b hb
  · simp at hb
theorem frCs_ids : ∀ (l : List CP) (cs : List CV), ∀ b ∈ frCs l cs, b ∈ idsCs cs
  | [], cs, b, hb => by simp [frCs] at hb
  | _ :: _, [], b, hb => by simp [frCs] at hb
  | h :: l, c :: cs, b, hb => by
    simp only [frCs, List.mem_append] at hb
    simp only [idsCs, List.mem_append]
    exact hb.imp (frC_ids b) (frCs_ids l cs b)
theorem frP_ids {p : PP} {c : PV} : ∀ b ∈ frP μ p c, Deepμ μ (idsP c) b := fun b hb => by
  unfold frP at hb
  split at hb
  · exact .inl (by simpa [idsP, idsCs] using frCs_ids _ _ b hb)
  · exact .inl (frCs_ids _ _ b hb)
  · rename_i ps b0
    split at hb
    · rename_i o cs hcs
      exact .inr ⟨b0, by simp [idsP, idsC], o, cs, hcs, frCs_ids _ _ b hb⟩
    · simp at hb
  · simp at hb
theorem frPs_ids : ∀ (ps : List PP) (cs : List PV), ∀ b ∈ frPs μ ps cs, Deepμ μ (idsPs cs) b
  | [], cs, b, hb => by simp [frPs] at hb
  | _ :: _, [], b, hb => by simp [frPs] at hb
  | p :: ps, c :: cs, b, hb => by
    simp only [frPs, List.mem_append] at hb
    rcases hb with hb | hb
    · exact (frP_ids b hb).mono fun b hb => by simp [idsPs, hb]
    · exact (frPs_ids ps cs b hb).mono fun b hb => by simp [idsPs, hb]
theorem frP_congr {p : PP} {c : PV} (h : ∀ b ∈ idsP c, μ b = μ' b) : frP μ p c = frP μ' p c := by
  unfold frP
  split
  · rfl
  · rfl
  · rename_i ps b; rw [h b (by simp [idsP, idsC])]
  · rfl
theorem frPs_congr : ∀ (ps : List PP) (cs : List PV), (∀ b ∈ idsPs cs, μ b = μ' b) → frPs μ ps cs = frPs μ' ps cs
  | [], cs, _ => by cases cs <;> rfl
  | _ :: _, [], _ => rfl
  | p :: ps, c :: cs, h => by simp only [frPs, frP_congr (p := p) (c := c) fun b hb => h b (by simp [idsPs, hb]), frPs_congr ps cs fun b hb => h b (by simp [idsPs, hb])]
theorem rdC_ids {p : CP} {c : CV} {u : U} {as : List (Asg × Bool)} (h : rdC μ p c = some (u, as)) : ∀ x ∈ as, ∀ b off n, x.1 = some (b, off, n) → b ∈ idsC c := by
  unfold rdC at h
  split at h
  all_goals
    repeat' split at h
  all_goals first
    | (cases h; done)
    | (obtain ⟨_, rfl⟩ := Prod.mk.inj (Option.some.inj h)
       intro x hx b off n hxx
       simp at hx
       try (subst hx; simp at hxx; try (simp [idsC, hxx.1])))
theorem rdCs_ids : ∀ {ps : List CP} {cs : List CV} {us : List U} {as : List (Asg × Bool)}, rdCs μ ps cs = some (us, as) → ∀ x ∈ as, ∀ b off n, x.1 = some (b, off, n) → b ∈ idsCs cs
  | [], [], us, as, h => by obtain ⟨_, rfl⟩ := Prod.mk.inj (Option.some.inj h); intro x hx; simp at hx
  | p :: ps, c :: cs, us, as, h => by
    simp only [rdCs] at h
    split at h
    · rename_i u a1 h1
      split at h
      · rename_i us' a2 h2
        obtain ⟨_, rfl⟩ := Prod.mk.inj (Option.some.inj h)
        intro x hx b off n hxx
        rcases List.mem_append.1 hx with hx | hx
        · simp only [idsCs, List.mem_append]; exact .inl (rdC_ids h1 x hx b off n hxx)
        · simp only [idsCs, List.mem_append]; exact .inr (rdCs_ids h2 x hx b off n hxx)
      · cases h
    · cases h
  | [], _ :: _, us, as, h => by simp [rdCs] at h
  | _ :: _, [], us, as, h => by simp [rdCs] at h
theorem rdP_ids {p : PP} {c : PV} {us : List U} {as : List (Asg × Bool)} (h : rdP μ p c = some (us, as)) : ∀ x ∈ as, ∀ b off n, x.1 = some (b, off, n) → Deepμ μ (idsP c) b := by
  unfold rdP at h
  split at h
  · intro x hx b off n hxx; exact .inl (by simpa [idsP, idsCs] using rdCs_ids h x hx b off n hxx)
  · intro x hx b off n hxx; exact .inl (rdCs_ids h x hx b off n hxx)
  · rename_i ps b0
    split at h
    · rename_i cs hcs
      split at h
      · rename_i us' as' hrd
        obtain ⟨_, rfl⟩ := Prod.mk.inj (Option.some.inj h)
        intro x hx b off n hxx
        rcases List.mem_cons.1 hx with rfl | hx
        · simp only [Option.some.injEq, Prod.mk.injEq] at hxx
          exact .inl (by simp [idsP, idsC, hxx.1])
        · exact .inr ⟨b0, by simp [idsP, idsC], true, cs, hcs, rdCs_ids hrd x hx b off n hxx⟩
      · cases h
    · cases h
  · rename_i l b0 l'
    split at h
    · split at h
      · obtain ⟨_, rfl⟩ := Prod.mk.inj (Option.some.inj h)
        intro x hx b off n hxx
        simp only [List.mem_singleton] at hx
        subst hx
        simp only [Option.some.injEq, Prod.mk.injEq] at hxx
        exact .inl (by simp [idsP, idsC, hxx.1])
      · cases h
    · cases h
  · cases h
theorem rdPs_ids : ∀ {ps : List PP} {cs : List PV} {us : List U} {as : List (Asg × Bool)}, rdPs μ ps cs = some (us, as) → ∀ x ∈ as, ∀ b off n, x.1 = some (b, off, n) → Deepμ μ (idsPs cs) b
  | [], [], us, as, h => by obtain ⟨_, rfl⟩ := Prod.mk.inj (Option.some.inj h); intro x hx; simp at hx
  | p :: ps, c :: cs, us, as, h => by
    simp only [rdPs] at h
    split at h
    · rename_i u a1 h1
      split at h
      · rename_i us' a2 h2
        obtain ⟨_, rfl⟩ := Prod.mk.inj (Option.some.inj h)
        intro x hx b off n hxx
        rcases List.mem_append.1 hx with hx | hx
        · exact (rdP_ids h1 x hx b off n hxx).mono fun b hb => by simp [idsPs, hb]
        · exact (rdPs_ids h2 x hx b off n hxx).mono fun b hb => by simp [idsPs, hb]
      · cases h
    · cases h
  | [], _ :: _, us, as, h => by simp [rdPs] at h
  | _ :: _, [], us, as, h => by simp [rdPs] at h
theorem shared_congr : ∀ (as : List (Asg × Bool)), (∀ x ∈ as, ∀ b off n, x.1 = some (b, off, n) → μ b = μ' b) → shared as μ = shared as μ'
  | [], _ => rfl
  | (none, o) :: as, h => by simp only [shared]; exact shared_congr as fun x hx => h x (by simp [hx])
  | (some (c, off, n), true) :: as, h => by simp only [shared]; exact shared_congr as fun x hx => h x (by simp [hx])
  | (some (c, off, n), false) :: as, h => by simp only [shared, h _ (List.mem_cons_self ..) c off n rfl, shared_congr as fun x hx => h x (by simp [hx])]
theorem cvsL_ids : ∀ (l : List Sh) (x : List D) (j : Nat), idsCs (cvsL l x j) = []
  | [], _, _ => rfl
  | h :: l, x, j => by simp only [cvsL, idsCs, cvsL_ids l x (j + 1)]; cases h <;> rfl
theorem normP_ids {p : PV} {b : Nat} (h : b ∈ idsP (normP p)) : b ∈ idsP p := by
  cases p with
  | one c => exact h
  | agg l => exact h
  | dat l ds => simp [normP, idsP, cvsL_ids] at h
theorem pvs_ids : ∀ {l : List SV} {ps : List PV}, pvs l = some ps → ∀ b ∈ idsPs ps, ∃ x ∈ l, b ∈ idsS x
  | [], ps, h => by simp only [pvs, Option.some.injEq] at h; subst h; intro b hb; simp [idsPs] at hb
  | .pv p :: l, ps, h => by
    simp only [pvs] at h
    split at h
    · rename_i r hr
      obtain rfl := Option.some.inj h
      intro b hb
      rcases List.mem_append.1 hb with hb | hb
      · exact ⟨_, List.mem_cons_self .., normP_ids hb⟩
      · obtain ⟨x, hx, hbx⟩ := pvs_ids hr b hb; exact ⟨x, by simp [hx], hbx⟩
    · cases h
  | .tup p :: l, ps, h => by simp [pvs] at h
theorem exCall_congr {sp : Option Spec} {l : List SV} {nid : Nat} (h : ∀ b, Deepμ μ (l.map idsS).flatten b → μ b = μ' b) : exCall sp l μ nid = exCall sp l μ' nid := by
  unfold exCall
  cases sp with
  | none => rfl
  | some sp =>
    simp only
    cases hp : pvs l with
    | none => rfl
    | some ps =>
      simp only
      have hsub : ∀ b ∈ idsPs ps, b ∈ (l.map idsS).flatten := fun b hb => let ⟨x, hx, hbx⟩ := pvs_ids hp b hb; List.mem_flatten.2 ⟨_, List.mem_map.2 ⟨x, hx, rfl⟩, hbx⟩
      have hids : ∀ b, Deepμ μ (idsPs ps) b → μ b = μ' b := fun b hb => h b (hb.mono hsub)
      have e1 : frPs μ sp.args ps = frPs μ' sp.args ps := frPs_congr _ _ fun b hb => hids b (.inl hb)
      have e2 : frz μ (frPs μ sp.args ps) = frz μ' (frPs μ sp.args ps) := frz_congr _ fun b hb => hids b (frPs_ids _ _ b hb)
      -- the frozen memory
      have e3 : ∀ b, Deepμ μ (idsPs ps) b → updM μ (frz μ (frPs μ sp.args ps)) b = updM μ' (frz μ' (frPs μ sp.args ps)) b := fun b hb => frozen_congr (fun b hb => hids b (frPs_ids _ _ b hb)) (hids b hb)
      have e4 : ∀ b, Deepμ (updM μ (frz μ (frPs μ sp.args ps))) (idsPs ps) b → Deepμ μ (idsPs ps) b := fun b hb => hb.imp id fun ⟨c, h1, o, cs, h2, h3⟩ => by
        obtain ⟨⟨o0, b0⟩, h4, h5⟩ := frz_get h2
        simp only at h5
        subst h5
        exact ⟨c, h1, o0, cs, h4, h3⟩
      have e5 : rdPs (updM μ (frz μ (frPs μ sp.args ps))) sp.args ps = rdPs (updM μ' (frz μ' (frPs μ' sp.args ps))) sp.args ps := by
        rw [rdPs_congr sp.args ps fun b hb => e3 b (e4 b hb), e1]
      rw [← e5]
      cases hr : rdPs (updM μ (frz μ (frPs μ sp.args ps))) sp.args ps with
      | none => rfl
      | some y =>
        obtain ⟨us, as⟩ := y
        simp only
        have e6 : shared as (updM μ (frz μ (frPs μ sp.args ps))) = shared as (updM μ' (frz μ' (frPs μ' sp.args ps))) := by
          rw [shared_congr as fun x hx b off n hxx => e3 b (e4 b (rdPs_ids hr x hx b off n hxx)), e1]
        rw [e6, e2, e1]
theorem rowOf_congr {c : CV} (h : ∀ b ∈ idsC c, μ b = μ' b) : rowOf μ c = rowOf μ' c := by
  cases c <;> simp only [rowOf] <;> first | rfl | (rename_i b; rw [h b (by simp [idsC])]) | (rename_i b _ _; rw [h b (by simp [idsC])])
theorem exSlice_congr {t : TypeId} {x : SV} {lo hi mx : Option Operand} (h : ∀ b ∈ idsS x, μ b = μ' b) (hl : ∀ y, lo = some y → ρ y = ρ' y) (hh : ∀ y, hi = some y → ρ y = ρ' y) : exSlice P ρ μ t x lo hi mx = exSlice P ρ' μ' t x lo hi mx := by
  unfold exSlice
  simp only [fun d => boundV_congr (d := d) hl, fun d => boundV_congr (d := d) hh]
  split
  · rfl
  · rename_i b _ _; rw [h b (by simp [idsS, idsP, idsC])]
  · rename_i b _ _ _ _; rw [h b (by simp [idsS, idsP, idsC])]
  · rfl
  · rfl
theorem exAppend_congr {nid : Nat} {t t2 : TypeId} {a x : SV} (h : ∀ b ∈ idsS a, μ b = μ' b) (h' : ∀ b ∈ idsS x, μ b = μ' b) : exAppend P μ nid t t2 a x = exAppend P μ' nid t t2 a x := by
  unfold exAppend
  split
  · split
    · split
      · rename_i b c; rw [h b (by simp [idsS, idsP, idsC]), rowOf_congr (c := c) h']
      · rename_i c; rw [rowOf_congr (c := c) h']
      · rfl
    · rfl
  · rfl
end
end Go.Proofs.Ytmmaechogibodaa.Vm

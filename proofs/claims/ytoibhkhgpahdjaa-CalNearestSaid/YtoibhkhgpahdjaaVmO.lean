/- What an operation of the abstract interpreter looks at. Conditions: none here. -/
import Derived.Test.YtoibhkhgpahdjaaVmN
set_option linter.unusedVariables false
set_option linter.unusedSimpArgs false
namespace Go.Proofs.Ytoibhkhgpahdjaa.Vm
open Go Go.RowKit

section
variable {P : Program} {ρ ρ' : Operand → SV} {μ μ' : Nat → Option Ent}
theorem known_congr : ∀ (l : List Operand), (∀ x ∈ l, ρ x = ρ' x) → known ρ l = known ρ' l
  | [], _ => rfl
  | x :: l, h => by simp only [known, h x (by simp), known_congr l fun y hy => h y (by simp [hy])]
theorem exPure_congr {o : Oper} (hs : ∀ cs b, o.op ≠ .select cs b) (h : ∀ x ∈ o.op.operands.toList, ρ x = ρ' x) : exPure P ρ o = exPure P ρ' o := by
  unfold exPure
  rw [known_congr _ h, execOp_congr o hs (ρ := valOf ρ) (ρ' := valOf ρ') fun x hx => by unfold valOf; rw [h x (by simpa using hx)]]
theorem fillL_congr {pl : Nat → Option (Nat × Nat)} : ∀ (ps : List (Nat × Operand)) (cs : List CV), (∀ x ∈ ps.map (·.2), ρ x = ρ' x) → fillL pl ρ cs ps = fillL pl ρ' cs ps
  | [], cs, _ => rfl
  | (i, x) :: ps, cs, h => by
    simp only [fillL, h x (by simp)]
    split
    · split
      · split
        · rename_i q _; exact fillL_congr ps q fun y hy => h y (by simp at hy ⊢; exact .inr hy)
        · rfl
      · rfl
    · rfl
theorem rowL_congr {k : IntKind} : ∀ (ps : List (Nat × Operand)) (q : Nat), (∀ x ∈ ps.map (·.2), ρ x = ρ' x) → rowL k ρ ps q = rowL k ρ' ps q
  | [], q, _ => rfl
  | (i, x) :: ps, q, h => by simp only [rowL, h x (by simp), rowL_congr ps (q + 1) fun y hy => h y (by simp at hy ⊢; exact .inr hy)]
theorem recL_congr {k : List IntKind} : ∀ (ps : List (Nat × Operand)) (q : Nat), (∀ x ∈ ps.map (·.2), ρ x = ρ' x) → recL k ρ ps q = recL k ρ' ps q
  | [], q, _ => rfl
  | (i, x) :: ps, q, h => by simp only [recL, h x (by simp), recL_congr ps (q + 1) fun y hy => h y (by simp at hy ⊢; exact .inr hy)]
theorem boundV_congr {d : Int} {x : Option Operand} (h : ∀ y, x = some y → ρ y = ρ' y) : boundV ρ d x = boundV ρ' d x := by
  cases x with
  | none => rfl
  | some y => simp only [boundV, h y rfl]
theorem exLoad_congr {t : TypeId} {x : SV} (h : ∀ b ∈ idsS x, μ b = μ' b) : exLoad P μ t x = exLoad P μ' t x := by
  unfold exLoad
  split
  · rename_i b i n j; rw [h b (by simp [idsS, idsP, idsC])]
  · rfl
theorem exStore_congr {t : TypeId} {a x : SV} (h : ∀ b ∈ idsS a, μ b = μ' b) : exStore P μ t a x = exStore P μ' t a x := by
  unfold exStore
  split
  · rename_i b i n j p; rw [h b (by simp [idsS, idsP, idsC])]
  · rfl
theorem exIndexAddr_congr {t : TypeId} {x ix : SV} (h : ∀ b ∈ idsS x, μ b = μ' b) : exIndexAddr P μ t x ix = exIndexAddr P μ' t x ix := by
  unfold exIndexAddr
  split
  · split
    · rename_i b _ _ _ _; rw [h b (by simp [idsS, idsP, idsC])]
    · rename_i b _; rw [h b (by simp [idsS, idsP, idsC])]
    · rename_i b _ _ _; rw [h b (by simp [idsS, idsP, idsC])]
    · rfl
  · rfl
theorem rdC_congr {p : CP} {c : CV} (h : ∀ b ∈ idsC c, μ b = μ' b) : rdC μ p c = rdC μ' p c := by
  cases c with
  | slf b => have := h b (by simp [idsC]); cases p <;> simp only [rdC, this]
  | slc b off l => have := h b (by simp [idsC]); cases p <;> simp only [rdC, this]
  | val v => cases p <;> cases v <;> first | rfl | (rename_i a l c; cases a <;> cases l <;> cases c <;> rfl)
  | ptr => cases p <;> rfl
  | any => cases p <;> rfl
theorem rdCs_congr : ∀ (ps : List CP) (cs : List CV), (∀ b ∈ idsCs cs, μ b = μ' b) → rdCs μ ps cs = rdCs μ' ps cs
  | [], [], _ => rfl
  | p :: ps, c :: cs, h => by simp only [rdCs, rdC_congr (p := p) (c := c) fun b hb => h b (by simp [idsCs, hb]), rdCs_congr ps cs fun b hb => h b (by simp [idsCs, hb])]
  | [], _ :: _, _ => rfl
  | _ :: _, [], _ => rfl
theorem rdP_congr {p : PP} {c : PV} (h : ∀ b ∈ idsP c, μ b = μ' b) : rdP μ p c = rdP μ' p c := by
  cases p <;> cases c <;> simp only [rdP] <;> first | rfl | exact rdCs_congr _ _ (fun b hb => h b (by simpa [idsP, idsCs] using hb))
theorem rdPs_congr : ∀ (ps : List PP) (cs : List PV), (∀ b ∈ idsPs cs, μ b = μ' b) → rdPs μ ps cs = rdPs μ' ps cs
  | [], [], _ => rfl
  | p :: ps, c :: cs, h => by simp only [rdPs, rdP_congr (p := p) (c := c) fun b hb => h b (by simp [idsPs, hb]), rdPs_congr ps cs fun b hb => h b (by simp [idsPs, hb])]
  | [], _ :: _, _ => rfl
  | _ :: _, [], _ => rfl
theorem rdC_ids {p : CP} {c : CV} {u : U} {as : List (Asg × Bool)} (h : rdC μ p c = some (u, as)) : ∀ x ∈ as, ∀ b off n, x.1 = some (b, off, n) → b ∈ idsC c := by
  unfold rdC at h
  split at h
  all_goals
    repeat' split at h
  all_goals first
    | (cases h; done)
    | (obtain ⟨_, rfl⟩ := Prod.mk.inj (Option.some.inj h)
       intro x hx b off n hxx
       simp at hx
       try (subst hx; simp at hxx; try (simp [idsC, hxx.1])))
theorem rdCs_ids : ∀ {ps : List CP} {cs : List CV} {us : List U} {as : List (Asg × Bool)}, rdCs μ ps cs = some (us, as) → ∀ x ∈ as, ∀ b off n, x.1 = some (b, off, n) → b ∈ idsCs cs
  | [], [], us, as, h => by obtain ⟨_, rfl⟩ := Prod.mk.inj (Option.some.inj h); intro x hx; simp at hx
  | p :: ps, c :: cs, us, as, h => by
    simp only [rdCs] at h
    split at h
    · rename_i u a1 h1
      split at h
      · rename_i us' a2 h2
        obtain ⟨_, rfl⟩ := Prod.mk.inj (Option.some.inj h)
        intro x hx b off n hxx
        rcases List.mem_append.1 hx with hx | hx
        · simp only [idsCs, List.mem_append]; exact .inl (rdC_ids h1 x hx b off n hxx)
        · simp only [idsCs, List.mem_append]; exact .inr (rdCs_ids h2 x hx b off n hxx)
      · cases h
    · cases h
  | [], _ :: _, us, as, h => by simp [rdCs] at h
  | _ :: _, [], us, as, h => by simp [rdCs] at h
theorem rdP_ids {p : PP} {c : PV} {us : List U} {as : List (Asg × Bool)} (h : rdP μ p c = some (us, as)) : ∀ x ∈ as, ∀ b off n, x.1 = some (b, off, n) → b ∈ idsP c := by
  cases p <;> cases c <;> simp only [rdP] at h
  · intro x hx b off n hxx; simpa [idsP, idsCs] using rdCs_ids h x hx b off n hxx
  · cases h
  · cases h
  · intro x hx b off n hxx; exact rdCs_ids h x hx b off n hxx
theorem rdPs_ids : ∀ {ps : List PP} {cs : List PV} {us : List U} {as : List (Asg × Bool)}, rdPs μ ps cs = some (us, as) → ∀ x ∈ as, ∀ b off n, x.1 = some (b, off, n) → b ∈ idsPs cs
  | [], [], us, as, h => by obtain ⟨_, rfl⟩ := Prod.mk.inj (Option.some.inj h); intro x hx; simp at hx
  | p :: ps, c :: cs, us, as, h => by
    simp only [rdPs] at h
    split at h
    · rename_i u a1 h1
      split at h
      · rename_i us' a2 h2
        obtain ⟨_, rfl⟩ := Prod.mk.inj (Option.some.inj h)
        intro x hx b off n hxx
        rcases List.mem_append.1 hx with hx | hx
        · simp only [idsPs, List.mem_append]; exact .inl (rdP_ids h1 x hx b off n hxx)
        · simp only [idsPs, List.mem_append]; exact .inr (rdPs_ids h2 x hx b off n hxx)
      · cases h
    · cases h
  | [], _ :: _, us, as, h => by simp [rdPs] at h
  | _ :: _, [], us, as, h => by simp [rdPs] at h
theorem shared_congr : ∀ (as : List (Asg × Bool)), (∀ x ∈ as, ∀ b off n, x.1 = some (b, off, n) → μ b = μ' b) → shared as μ = shared as μ'
  | [], _ => rfl
  | (none, o) :: as, h => by simp only [shared]; exact shared_congr as fun x hx => h x (by simp [hx])
  | (some (c, off, n), o) :: as, h => by simp only [shared, h _ (List.mem_cons_self ..) c off n rfl, shared_congr as fun x hx => h x (by simp [hx])]
theorem pvs_ids : ∀ {l : List SV} {ps : List PV}, pvs l = some ps → ∀ b ∈ idsPs ps, ∃ x ∈ l, b ∈ idsS x
  | [], ps, h => by simp only [pvs, Option.some.injEq] at h; subst h; intro b hb; simp [idsPs] at hb
  | .pv p :: l, ps, h => by
    simp only [pvs] at h
    split at h
    · rename_i r hr
      obtain rfl := Option.some.inj h
      intro b hb
      rcases List.mem_append.1 hb with hb | hb
      · exact ⟨_, List.mem_cons_self .., hb⟩
      · obtain ⟨x, hx, hbx⟩ := pvs_ids hr b hb; exact ⟨x, by simp [hx], hbx⟩
    · cases h
  | .tup p :: l, ps, h => by simp [pvs] at h
theorem exCall_congr {sp : Option Spec} {l : List SV} {nid : Nat} (h : ∀ x ∈ l, ∀ b ∈ idsS x, μ b = μ' b) : exCall sp l μ nid = exCall sp l μ' nid := by
  unfold exCall
  cases sp with
  | none => rfl
  | some sp =>
    simp only
    cases hp : pvs l with
    | none => rfl
    | some ps =>
      simp only
      have hids : ∀ b ∈ idsPs ps, μ b = μ' b := fun b hb => let ⟨x, hx, hbx⟩ := pvs_ids hp b hb; h x hx b hbx
      rw [rdPs_congr sp.args ps hids]
      cases hr : rdPs μ' sp.args ps with
      | none => rfl
      | some y =>
        obtain ⟨us, as⟩ := y
        simp only
        rw [shared_congr as fun x hx b off n hxx => hids b (rdPs_ids hr x hx b off n hxx)]
theorem rowOf_congr {c : CV} (h : ∀ b ∈ idsC c, μ b = μ' b) : rowOf μ c = rowOf μ' c := by
  cases c <;> simp only [rowOf] <;> first | rfl | (rename_i b; rw [h b (by simp [idsC])]) | (rename_i b _ _; rw [h b (by simp [idsC])])
theorem exSlice_congr {t : TypeId} {x : SV} {lo hi mx : Option Operand} (h : ∀ b ∈ idsS x, μ b = μ' b) (hl : ∀ y, lo = some y → ρ y = ρ' y) (hh : ∀ y, hi = some y → ρ y = ρ' y) : exSlice P ρ μ t x lo hi mx = exSlice P ρ' μ' t x lo hi mx := by
  unfold exSlice
  simp only [fun d => boundV_congr (d := d) hl, fun d => boundV_congr (d := d) hh]
  split
  · rfl
  · rename_i b _ _; rw [h b (by simp [idsS, idsP, idsC])]
  · rename_i b _ _ _ _; rw [h b (by simp [idsS, idsP, idsC])]
  · rfl
theorem exAppend_congr {nid : Nat} {t t2 : TypeId} {a x : SV} (h : ∀ b ∈ idsS a, μ b = μ' b) (h' : ∀ b ∈ idsS x, μ b = μ' b) : exAppend P μ nid t t2 a x = exAppend P μ' nid t t2 a x := by
  unfold exAppend
  split
  · split
    · split
      · rename_i b c; rw [h b (by simp [idsS, idsP, idsC]), rowOf_congr (c := c) h']
      · rename_i c; rw [rowOf_congr (c := c) h']
      · rfl
    · rfl
  · rfl
end
end Go.Proofs.Ytoibhkhgpahdjaa.Vm

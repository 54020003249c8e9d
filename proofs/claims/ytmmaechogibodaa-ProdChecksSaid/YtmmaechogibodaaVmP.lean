/- Regions whose order is drawn. Conditions: the program follows the model's mixed orders. -/
import Derived.Test.YtmmaechogibodaaVmO
set_option linter.unusedVariables false
set_option linter.unusedSimpArgs false
namespace Go.Proofs.Ytmmaechogibodaa.Vm
open Go Go.RowKit

section
variable {P : Program} {ρ ρ' : Operand → SV} {μ μ' : Nat → Option Ent}
theorem exBin_congr {o : Oper} {op : BinOp} {xt yt : TypeId} {x y : Operand} (ho : o.op = .binOp op xt x y yt) (h : ∀ x ∈ o.op.operands.toList, ρ x = ρ' x) : exBin P ρ o op x y = exBin P ρ' o op x y := by
  have hx := h x (by simp [ho, Op.operands])
  have hy := h y (by simp [ho, Op.operands])
  have hp := exPure_congr (P := P) (o := o) (fun cs b e => by rw [ho] at e; cases e) h
  unfold exBin
  simp only [hx, hy, hp]
theorem exUn_congr {o : Oper} {op : UnOp} {xt : TypeId} {x : Operand} (ho : o.op = .unOp op xt x) (h : ∀ x ∈ o.op.operands.toList, ρ x = ρ' x) : exUn P ρ o op x = exUn P ρ' o op x := by
  have hx := h x (by simp [ho, Op.operands])
  have hp := exPure_congr (P := P) (o := o) (fun cs b e => by rw [ho] at e; cases e) h
  unfold exUn
  simp only [hx, hp]
theorem exLen_congr {o : Oper} {t : TypeId} {x : Operand} (ho : o.op = .call { callee := .builtin .len, args := ⟨[x]⟩, argTypes := ⟨[t]⟩ }) (h : ∀ x ∈ o.op.operands.toList, ρ x = ρ' x) (hμ : ∀ b ∈ idsS (ρ x), μ b = μ' b) :
    exLen P ρ μ o t (ρ x) = exLen P ρ' μ' o t (ρ' x) := by
  have hx := h x (by simp [ho, Op.operands, Call.operands])
  have hp := exPure_congr (P := P) (o := o) (fun cs b e => by rw [ho] at e; cases e) h
  rw [← hx]
  unfold exLen
  rw [hp]
  split
  · rename_i b _ hb _; rw [hμ b (by rw [hb]; simp [idsS, idsP, idsC])]
  · rename_i b _ _ _ hb _; rw [hμ b (by rw [hb]; simp [idsS, idsP, idsC])]
  · rfl
  · rfl
theorem exLookup_congr {t : TypeId} {x ix : SV} {ok : Bool} (h : ∀ b ∈ idsS x, μ b = μ' b) : exLookup P μ t x ix ok = exLookup P μ' t x ix ok := by
  unfold exLookup
  split
  · rename_i kt vt b kp hu
    rw [h b (by simp [idsS, idsP, idsC])]
  · rfl
theorem exMapUpdate_congr {t : TypeId} {x ix v : SV} (h : ∀ b ∈ idsS x, μ b = μ' b) : exMapUpdate P μ t x ix v = exMapUpdate P μ' t x ix v := by
  unfold exMapUpdate
  split
  · rename_i kt vt b kp vp hu
    rw [h b (by simp [idsS, idsP, idsC])]
  · rfl
theorem exBinA_congr {o : Oper} {op : BinOp} {xt yt : TypeId} {x y : Operand} (ho : o.op = .binOp op xt x y yt) (h : ∀ x ∈ o.op.operands.toList, ρ x = ρ' x) : exBinA P ρ o op xt x y = exBinA P ρ' o op xt x y := by
  have hx := h x (by rw [ho]; simp [Op.operands])
  have hy := h y (by rw [ho]; simp [Op.operands])
  have hp := exPure_congr (P := P) (o := o) (fun cs b e => by rw [ho] at e; cases e) h
  unfold exBinA
  simp only [exNilEq, hx, hy, exBin_congr ho h, hp]
theorem exOp_congr {env : FuncId → Option Spec} {nid : Nat} {o : Oper} (hρ : ∀ x ∈ o.op.operands.toList, ρ x = ρ' x) (hμ : ∀ x ∈ o.op.operands.toList, ∀ b ∈ idsS (ρ x), μ b = μ' b)
    (hd : ∀ x args ats, o.op = .call { callee := .value x, args := args, argTypes := ats } → ∀ b, Deepμ μ (o.op.operands.toList.map fun x => idsS (ρ x)).flatten b → μ b = μ' b) : exOp P env ρ μ nid o = exOp P env ρ' μ' nid o := by
  unfold exOp
  split
  · rename_i x ho; rw [hρ x (by simp [ho, Op.operands])]
  · rename_i x ho; rw [hρ x (by simp [ho, Op.operands])]
  · rename_i c x y ho; rw [hρ c (by simp [ho, Op.operands]), hρ x (by simp [ho, Op.operands]), hρ y (by simp [ho, Op.operands])]
  · rfl
  · rename_i t x ho; rw [hρ x (by simp [ho, Op.operands])]
  · rename_i t parts ho
    unfold exBuild
    simp only [fun pl cs => fillL_congr (pl := pl) (ρ := ρ) (ρ' := ρ') parts.toList cs fun x hx => hρ x (by rw [ho]; simpa [Op.operands] using hx)]
  · rename_i t n parts ho
    exact exBuildSlice_congr (fun x hx => hρ x (by rw [ho]; simpa [Op.operands] using hx)) fun x hx => hμ x (by rw [ho]; simpa [Op.operands] using hx)
  · rename_i t x i ho; rw [hρ x (by simp [ho, Op.operands])]
  · rename_i t x ho
    have hx : x ∈ o.op.operands.toList := by simp [ho, Op.operands]
    rw [exLoad_congr (hμ x hx), hρ x hx]
  · rename_i t x y ho
    have hx : x ∈ o.op.operands.toList := by simp [ho, Op.operands]
    have hy : y ∈ o.op.operands.toList := by simp [ho, Op.operands]
    rw [exStore_congr (hμ x hx) (hμ y hy), hρ x hx, hρ y hy]
  · rename_i t x i ho; rw [hρ x (by simp [ho, Op.operands])]
  · rename_i t x y ho
    have hx : x ∈ o.op.operands.toList := by simp [ho, Op.operands]
    rw [exIndexAddr_congr (hμ x hx), hρ x hx, hρ y (by simp [ho, Op.operands])]
  · rename_i t x y ho; rw [hρ x (by simp [ho, Op.operands]), hρ y (by simp [ho, Op.operands])]
  · rename_i x i ho; rw [hρ x (by simp [ho, Op.operands])]
  · rename_i op xt x y yt ho; exact exBinA_congr ho hρ
  · rename_i t x y ho; rw [hρ x (by simp [ho, Op.operands]), hρ y (by simp [ho, Op.operands])]
  · rename_i t x lo hi mx ho
    have hx : x ∈ o.op.operands.toList := by simp [ho, Op.operands]
    rw [exSlice_congr (ρ' := ρ') (hμ x hx) (fun y hy => hρ y (by simp [ho, Op.operands, hy])) (fun y hy => hρ y (by simp [ho, Op.operands, hy])), hρ x hx]
  · rename_i x args ats ho
    have hargs : ∀ y ∈ args.toList, y ∈ o.op.operands.toList := fun y hy => by rw [ho]; simp [Op.operands, Call.operands] at hy ⊢; exact .inr hy
    have hx : x ∈ o.op.operands.toList := by simp [ho, Op.operands, Call.operands]
    have e : args.toList.map ρ = args.toList.map ρ' := List.map_congr_left fun x hx => hρ x (hargs x hx)
    rw [← e, ← hρ x hx]
    split
    · unfold exCallF
      split
      · refine exCall_congr fun b hb => hd x args ats ho b (hb.mono fun c hc => ?_)
        obtain ⟨l, hl, hcl⟩ := List.mem_flatten.1 hc
        obtain ⟨v, hv, rfl⟩ := List.mem_map.1 hl
        obtain ⟨y, hy, rfl⟩ := List.mem_map.1 hv
        exact List.mem_flatten.2 ⟨_, List.mem_map.2 ⟨y, hargs y hy, rfl⟩, hcl⟩
      · rfl
    · rfl
  · rename_i x t ho; exact exLen_congr ho hρ (hμ x (by simp [ho, Op.operands, Call.operands]))
  · rename_i x y t t2 ho
    have hx : x ∈ o.op.operands.toList := by simp [ho, Op.operands, Call.operands]
    have hy : y ∈ o.op.operands.toList := by simp [ho, Op.operands, Call.operands]
    rw [exAppend_congr (hμ x hx) (hμ y hy), hρ x hx, hρ y hy]
  · rename_i ho; exact exPure_congr (fun cs b e => by rw [ho] at e; cases e) hρ
  · rename_i ho; exact exPure_congr (fun cs b e => by rw [ho] at e; cases e) hρ
  · rename_i op xt x ho; exact exUn_congr ho hρ
  · rename_i x ho; rw [hρ x (by simp [ho, Op.operands])]
  · rename_i ho; exact exPure_congr (fun cs b e => by rw [ho] at e; cases e) hρ
  · rename_i ho; exact exPure_congr (fun cs b e => by rw [ho] at e; cases e) hρ
  · rename_i ho; exact exPure_congr (fun cs b e => by rw [ho] at e; cases e) hρ
  · rename_i src dst x ho
    have hx : x ∈ o.op.operands.toList := by simp [ho, Op.operands]
    rw [← hρ x hx]
    have hp := exPure_congr (P := P) (o := o) (fun cs b e => by rw [ho] at e; cases e) hρ
    unfold exConv
    split
    · rw [hp]
    · rename_i c _ hc
      have hr : rowOf μ c = rowOf μ' c := rowOf_congr (c := c) (fun b hb => hμ x hx b (by rw [hc]; simpa [idsS, idsP] using hb))
      have hs : exSame P μ src dst c = exSame P μ' src dst c := by
        cases c with
        | slf b => simp only [exSame, hμ x hx b (by rw [hc]; simp [idsS, idsP, idsC])]
        | _ => rfl
      rw [← hr, ← hs]
      split
      · rfl
      · exact hp
    · exact hp
  · rfl
  · rename_i t x ix ok ho
    have hx : x ∈ o.op.operands.toList := by simp [ho, Op.operands]
    rw [exLookup_congr (hμ x hx), hρ x hx, hρ ix (by simp [ho, Op.operands])]
  · rename_i t x ix v ho
    have hx : x ∈ o.op.operands.toList := by simp [ho, Op.operands]
    rw [exMapUpdate_congr (hμ x hx), hρ x hx, hρ ix (by simp [ho, Op.operands]), hρ v (by simp [ho, Op.operands])]
  · rfl
end
end Go.Proofs.Ytmmaechogibodaa.Vm

import Derived.Test.YtmmaechogibodaaVmY
import Derived.Test.YtmmaechogibodaaVmRc
import Derived.Test.YtmmaechogibodaaVmCl
import Derived.Test.YtmmaechogibodaaProg
import Derived.Test.YtmmaechogibodaaVmRg
import Derived.Test.YtmmaechogibodaaFA
import Derived.Test.YtmmaechogibodaaFB
import Derived.Test.YtmmaechogibodaaFV
import Derived.Test.YtmmaechogibodaaFC
import Derived.Test.YtmmaechogibodaaFD
import Derived.Test.YtmmaechogibodaaFE
import Derived.Test.YtmmaechogibodaaFG
import Derived.Test.YtmmaechogibodaaFH
import Derived.Test.YtmmaechogibodaaFI
import Derived.Test.YtmmaechogibodaaFJ
import Derived.Test.YtmmaechogibodaaFK
import Derived.Test.YtmmaechogibodaaFL
import Derived.Test.YtmmaechogibodaaFM
namespace Go.Proofs.Ytmmaechogibodaa.F
open Go Go.Proofs.Ytmmaechogibodaa.Vm
set_option maxRecDepth 1000000
set_option linter.unusedVariables false
set_option linter.unusedSimpArgs false
noncomputable section
noncomputable def _prod_Catalogue_At_w (K : Nat) : List U → Option At.RT := fun us => match us with | [.d dd0_0, .m m0_1, .i x1, .i x2] => _prod_Catalogue_At K dd0_0 m0_1 x1 x2 | _ => none
noncomputable def _prod_Catalogue_At_enc : At.RT → List U := fun r => [.i (nth 0 r.1.1 0), .i (nth 0 r.1.1 1), .i (nth 0 r.1.1 2), .i (nth 0 r.1.1 3), .i (nth 0 r.1.1 4), .i (nth 0 r.1.1 5), .i (nth 0 r.1.1 6), .i (nth 0 r.1.1 7), .rr r.1.2, .i r.2.1, .d r.2.2.1, .m r.2.2.2]
noncomputable def _prod_Catalogue_At_spec (K : Nat) : Vm.Spec := ⟨At.args, At.res, At.RT, _prod_Catalogue_At_w K, _prod_Catalogue_At_enc⟩
namespace At
theorem flat_R0 : flatC R0 = true := by kernel_rfl
theorem flat_C1 : flatC C1 = true := by kernel_rfl
theorem flat_C2 : flatC C2 = true := by kernel_rfl
theorem flat_5 : (ops5.toList.take 4).all notDefer = true := by kernel_rfl
theorem dec_enc (u : List U) (r : RT) (h : dec u = some r) : enc r = u := by
  unfold dec at h
  split at h
  · obtain rfl := Option.some.inj h
    rfl
  · cases h
set_option maxHeartbeats 1000000 in
theorem fn_ok (K : Nat) : FnOk P 19 (_prod_Catalogue_At_spec K) := by
  intro us r hG Z γ w Vs ps es hmk hA hM
  have hG : _prod_Catalogue_At_w K us = some r := hG
  have h : (atT K us).den = some r := by
    unfold _prod_Catalogue_At_w at hG
    split at hG
    · exact ((den2_eq _).symm.trans (_prod_Catalogue_At_eq K _ _ _ _)).trans hG
    · cases hG
  have hdec : ∀ u, dec u = some r → enc r = u := fun u hu => dec_enc u r hu
  unfold atT at h
  have hmk' : mkPs 0 args us = some (ps, es, []) := hmk
  rw [hmk'] at h
  simp only at h
  refine (callsIn_wide (n := 5)).1 (callsIn_of_wp_marks (c := b19) Go.Proofs.Try.func19 rfl trivial ?_ rfl)
  show b19.wpIn Fence.wide 5 P (post 5 (enc r) Z γ es w) _ w
  rw [b19_eq]
  have RE := entry_rel (fn := Go.Proofs.Try.f19) hA hM
  have FE : ∀ b, (⟨fun b => b < es.length, Z⟩ : NS) b → b < len es := fun b hb => by rw [len_eq]; exact hb
  -- what comes in is boxed
  rw [T.den_bind] at h
  cases h0 : (runC P (env K) lenv0 R0 ⟨ps.map .pv ++ List.replicate (Go.Proofs.Try.f19.ntmps - len ps) undefS, memOf es, len es, rootIds 0 args⟩).den with
  | none => rw [h0] at h; cases h
  | some z =>
  obtain ⟨e0, s1⟩ := z
  rw [h0] at h
  simp only [Option.bind_some] at h
  cases e0 with
  | exit => exact (den_fail h).elim
  | ret => exact (den_fail h).elim
  | pan => exact (den_fail h).elim
  | normal =>
  have rt1 := runC_rt R0 flat_R0 _ _ _ h0
  refine wpIn_seq (wpIn_mono (runC_in (r := none) (n := 5) (env__prod_Catalogue_List_ok K) R0 flat_R0 _ _ _ h0 (fun t m e => by cases e) _ w _ w _ γ RE FE) ?_)
  rintro ex a1 W1 ⟨rfl, F1, γ1, R1, hF1, hx1⟩
  show (Code.seq C1 _).wpIn Fence.wide 5 P _ a1 W1
  have rtg : ∀ {F' : NS} {γ' : GM} {s' : St}, Ext ⟨fun b => b < es.length, Z⟩ γ F' γ' → s'.rt = rootIds 0 args → s'.rt.map γ' = (rootIds 0 args).map γ := fun hx hr => by
    rw [hr]; exact List.map_congr_left fun b hb => hx.2 b (RE.rts b hb)
  -- is the day one?
  simp only at h
  rw [T.den_bind] at h
  cases h1 : (runC P (env K) lenv0 C1 s1).den with
  | none => rw [h1] at h; cases h
  | some z =>
  obtain ⟨e1, s2⟩ := z
  rw [h1] at h
  simp only [Option.bind_some] at h
  have rt2 := (runC_rt C1 flat_C1 _ _ _ h1).trans rt1
  have np1 : ∀ t m, e1 ≠ .pan t m := fun t m e => by subst e; exact den_fail h
  refine wpIn_seq (wpIn_mono (runC_in (r := none) (n := 5) (env__prod_Catalogue_List_ok K) C1 flat_C1 _ _ _ h1 np1 _ w a1 W1 F1 γ1 R1 hF1) ?_)
  rintro ex a2 W2 ⟨rfl, F2, γ2, R2, hF2, hx2⟩
  have hx2 := hx1.trans hx2
  cases e1 with
  | exit => exact (den_fail h).elim
  | pan t m => exact (np1 t m rfl).elim
  | ret => exact leave_plain hmk hA hdec h R2 (rtg hx2 rt2)
  | normal =>
  show (Code.seq C2 _).wpIn Fence.wide 5 P _ a2 W2
  simp only at h
  rw [T.den_bind] at h
  cases h2 : (runC P (env K) lenv0 C2 s2).den with
  | none => rw [h2] at h; cases h
  | some z =>
  obtain ⟨e2, s3⟩ := z
  rw [h2] at h
  simp only [Option.bind_some] at h
  have rt3 := (runC_rt C2 flat_C2 _ _ _ h2).trans rt2
  have np2 : ∀ t m, e2 ≠ .pan t m := fun t m e => by subst e; exact den_fail h
  refine wpIn_seq (wpIn_mono (runC_in (r := none) (n := 5) (env__prod_Catalogue_List_ok K) C2 flat_C2 _ _ _ h2 np2 _ w a2 W2 F2 γ2 R2 hF2) ?_)
  rintro ex a3 W3 ⟨rfl, F3, γ3, R3, hF3, hx3⟩
  have hx3 := hx2.trans hx3
  cases e2 with
  | exit => exact (den_fail h).elim
  | pan t m => exact (np2 t m rfl).elim
  | ret => exact leave_plain hmk hA hdec h R3 (rtg hx3 rt3)
  | normal =>
  show (Code.seq (.seq R5 (.block 0 (.rangeFunc (.tmp 24) #[25, 26] asg bdy))) X4).wpIn Fence.wide 5 P _ a3 W3
  simp only at h
  rw [T.den_bind] at h
  cases h3 : (runLX P (env K) ops5.toList s3.nx (ops5.toList.take 4) 0 s3).den with
  | none => rw [h3] at h; cases h
  | some z =>
  obtain ⟨e3, s4⟩ := z
  rw [h3] at h
  simp only [Option.bind_some] at h
  cases e3 with
  | exit => exact (den_fail h).elim
  | ret => exact (den_fail h).elim
  | pan => exact (den_fail h).elim
  | normal =>
  have rt4 := (runLX_rt _ _ _ _ _ h3).trans rt3
  rw [R5_eq]
  refine wpIn_seq (wpIn_seq (wpIn_region_list ?_))
  rw [ops5_eq]
  have key : wpList P ops5 (InPost ⟨Z, ownedOf γ es, []⟩ w F3 γ3 .normal s4) (ops5.toList.take 4) a3 W3 :=
    runLX_ok (env__prod_Catalogue_List_ok K) (fun a' w' F' γ' R' hF' hx' => ⟨rfl, F', γ', R', hF', hx'⟩) _ 0 _ a3 W3 _ _ R3 (fun b hb => by have := hF3 b hb; omega) (Ext.refl _ _) h3
  refine listIn (r := none) (n := 5) (fun ⟨a, w, q⟩ => Ex.to_out _ q.1.symm) (fun c a w q => by cases q.1) (fun a4 W4 hp => ?_) _ a3 W3 flat_5 key
  obtain ⟨_, F4, γ4, R4, hF4, hx4⟩ := hp
  exact mid_in hmk hA hdec R4 hF4 (rtg (hx3.trans hx4) rt4) h
end At
noncomputable def env__prod_Catalogue_At (K : Nat) : FuncId → Option Vm.Spec := addS (env__prod_Catalogue_List K) 19 (_prod_Catalogue_At_spec K)
theorem env__prod_Catalogue_At_ok (K : Nat) : EnvOk Go.Proofs.Try.prog (env__prod_Catalogue_At K) := addS_ok (env__prod_Catalogue_List_ok K) (.inl ⟨callable Go.Proofs.Try.func19 (by kernel_rfl) (by kernel_rfl), At.fn_ok K⟩)
end
end Go.Proofs.Ytmmaechogibodaa.F

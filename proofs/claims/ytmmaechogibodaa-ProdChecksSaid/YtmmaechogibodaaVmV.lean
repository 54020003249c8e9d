/- Code, loops: the abstract interpreter tells what they do. Conditions: the program follows the model's mixed orders. -/
import Derived.Test.YtmmaechogibodaaVmU
set_option linter.unusedVariables false
set_option linter.unusedSimpArgs false
namespace Go.Proofs.Ytmmaechogibodaa.Vm
open Go Go.RowKit

section
variable {P : Program} {A : Ctx} {w0 : World} {F : NS} {γ : GM} {s : St} {a : Act} {w : World}
theorem rtOk_map {γ' : GM} {m' : MM} {F' : NS} {nb : Nat} {all : List (Nat × SP)} {tmps : List SV} {m : MM} (hB : Boxed m γ nb all tmps F' γ' m') : ∀ (l r : List Nat), rtOk all nb tmps l r = true → l.map γ' = r.map γ ∧ ∀ b ∈ l, F' b
  | [], [], _ => ⟨rfl, fun b hb => by simp at hb⟩
  | id :: l, b :: r, h => by
    simp only [rtOk] at h
    split at h
    · rename_i hsp
      obtain ⟨h1, h2⟩ := spOk_spec hsp
      obtain ⟨q1, q2, _⟩ := hB id b h2 h1
      obtain ⟨k1, k2⟩ := rtOk_map hB l r h
      exact ⟨by simp [q2, k1], fun c hc => by exact (List.mem_cons.1 hc).elim (fun e => e ▸ q1) (k2 c)⟩
    · cases h
  | [], _ :: _, h => by simp [rtOk] at h
  | _ :: _, [], h => by simp [rtOk] at h
theorem rdStF_ok {p : Pat} {us : List U} (h : rdStF p s = some us) (R : Rel A w0 F γ s a w) : ∃ s' F' γ', mkSt p us = some s' ∧ Rel A w0 F' γ' s' a w ∧ (∀ b, F' b → b < s'.nx) ∧ s'.rt.map γ' = s.rt.map γ := by
  unfold rdStF at h
  split at h
  case isFalse => cases h
  rename_i hnt
  rw [len_eq] at hnt
  split at h
  case h_2 => cases h
  rename_i hrt
  split at h
  case h_2 => cases h
  rename_i u1 a1 u2 ba ra h1 h2
  split at h
  case h_2 => cases h
  rename_i hok
  obtain rfl := Option.some.inj h
  obtain ⟨tm, es, k1, k4, k2, k3, k5⟩ := slots_again R.toMem R.slots h1 p.boxes.length (List.replicate p.nt anyS) u2
  obtain ⟨i1, i2, i3⟩ := boxes_again R.toMem h2
  obtain ⟨bs, es2, j1, j2, j5, j3, j4, j6⟩ := i3 (p.boxes.length + es.length)
  obtain ⟨ents, hents⟩ : ∃ l, l = bs ++ (es ++ es2) := ⟨_, rfl⟩
  obtain ⟨asgs, hasgs⟩ : ∃ l, l = ba ++ (a1 ++ ra) := ⟨_, rfl⟩
  have hlen : ents.length = asgs.length := by rw [hents, hasgs]; simp; omega
  obtain ⟨γ', hγ'⟩ : ∃ γ' : GM, ∀ i, γ' i = match asgs[i]? with | some x => shiftA γ x.1 | none => none := ⟨_, fun _ => rfl⟩
  have hg : ∀ i x, asgs[i]? = some x → γ' i = shiftA γ x.1 := fun i x hx => by rw [hγ', hx]
  have hbl : bs.length = ba.length := by omega
  have hall : ∀ b e, memOf ents b = some e → (b < bs.length ∧ bs[b]? = some e) ∨ (∃ x, asgs[b]? = some x ∧ AsgOk s.mem x e) := fun b e he => by
    rw [memOf_eq, hents] at he
    by_cases hb : b < bs.length
    · rw [List.getElem?_append_left hb] at he; exact .inl ⟨hb, he⟩
    · right
      rw [List.getElem?_append_right (by omega)] at he
      by_cases hb2 : b - bs.length < es.length
      · rw [List.getElem?_append_left hb2] at he
        obtain ⟨x, hx⟩ : ∃ x, a1[b - bs.length]? = some x := ⟨_, List.getElem?_eq_getElem (by omega)⟩
        refine ⟨x, ?_, k3 _ e x he hx⟩
        rw [hasgs, List.getElem?_append_right (by omega), List.getElem?_append_left (by omega), ← hx]; congr 1; omega
      · rw [List.getElem?_append_right (by omega)] at he
        have hlt := (List.getElem?_eq_some_iff.1 he).1
        obtain ⟨x, hx⟩ : ∃ x, ra[b - bs.length - es.length]? = some x := ⟨_, List.getElem?_eq_getElem (by omega)⟩
        refine ⟨x, ?_, j4 _ e x he hx⟩
        rw [hasgs, List.getElem?_append_right (by omega), List.getElem?_append_right (by omega), ← hx]; congr 1; omega
  -- where each new block lies
  have src : ∀ b e g base, memOf ents b = some e → γ' b = some (g, base) → ∃ c e0 base0 off n, asgs[b]? = some (some (c, off, n), e.own) ∧ s.mem c = some e0 ∧ γ c = some (g, base0) ∧ (e.own = true → e0.own = true) ∧ ∀ kk vk xs, e.blk = .map kk vk xs → e0.blk = .map kk vk xs := fun b e g base he hgb => by
    rcases hall b e he with ⟨hb, hbe⟩ | ⟨x, hx, hk⟩
    · obtain ⟨c, n, e0, q1, q2, q3, q4, q5, q6⟩ := j5 b e hbe
      have hx : asgs[b]? = some (some (c, 0, n), true) := by rw [hasgs, List.getElem?_append_left (by omega)]; exact q1
      rw [hg b _ hx] at hgb
      simp only [shiftA, Option.map_eq_some_iff] at hgb
      obtain ⟨⟨g', base'⟩, z1, z2⟩ := hgb
      simp only [Prod.mk.injEq] at z2
      obtain ⟨rfl, _⟩ := z2
      rw [← q4] at hx
      exact ⟨c, _, base', 0, n, hx, q2, z1, fun _ => q3, q6⟩
    · rw [hg b x hx] at hgb
      obtain ⟨h1, h3⟩ := hk
      obtain ⟨x1, x2⟩ := x
      cases x1 with
      | none => cases hgb
      | some y =>
        obtain ⟨c, off, n⟩ := y
        obtain ⟨e0, z1, z2, z5⟩ := h3
        simp only [shiftA, Option.map_eq_some_iff] at hgb
        obtain ⟨⟨g', base'⟩, z3, z4⟩ := hgb
        simp only [Prod.mk.injEq] at z4
        obtain ⟨rfl, _⟩ := z4
        simp only at h1
        subst h1
        exact ⟨c, e0, base', off, n, hx, z1, z3, z2, z5⟩
  obtain ⟨Zc, hZc⟩ : ∃ Zc : Nat → Prop, ∀ g, Zc g ↔ (F.z g ∨ ∃ b e base, memOf ents b = some e ∧ e.own = false ∧ γ' b = some (g, base)) := ⟨_, fun _ => Iff.rfl⟩
  obtain ⟨F', hF'⟩ : ∃ F' : NS, F' = ⟨fun b => b < ents.length, Zc⟩ := ⟨_, rfl⟩
  have hF'f : ∀ b, F' b ↔ b < ents.length := fun b => by rw [hF']
  have hz : ∀ g, F.z g → F'.z g := fun g h => by rw [hF']; exact (hZc g).2 (.inl h)
  have Tall : Told γ 0 asgs ents F' γ' (memOf ents) :=
    ⟨fun i e he => by rw [Nat.zero_add]; exact (hF'f i).2 (List.getElem?_eq_some_iff.1 he).1, fun i e he => by rw [Nat.zero_add, memOf_eq]; exact he, fun i x hx => by rw [Nat.zero_add]; exact hg i x hx⟩
  have T1 : Told γ p.boxes.length a1 es F' γ' (memOf ents) := by
    have := (hents ▸ hasgs ▸ Tall : Told γ 0 (ba ++ (a1 ++ ra)) (bs ++ (es ++ es2)) _ _ _).right hbl.symm
    rw [Nat.zero_add, j2] at this
    rw [hents]; exact this.left
  have T2 : Told γ (p.boxes.length + es.length) ra es2 F' γ' (memOf ents) := by
    have := (hents ▸ hasgs ▸ Tall : Told γ 0 (ba ++ (a1 ++ ra)) (bs ++ (es ++ es2)) _ _ _).right hbl.symm
    rw [Nat.zero_add, j2] at this
    rw [hents]; exact this.right k2.symm
  have hbox : Boxed s.mem γ p.boxes.length p.slots s.tmps F' γ' (memOf ents) := fun id b hid hb => by
    obtain ⟨n, hba⟩ := i2 id b (Nat.zero_le _) (by omega) hb
    rw [Nat.sub_zero] at hba
    have hidb : id < bs.length := by omega
    obtain ⟨b', n', e0, q1, q2, q3, q4, q5, q6⟩ := j5 id bs[id] (List.getElem?_eq_getElem hidb)
    rw [hba] at q1
    obtain ⟨rfl, rfl⟩ : b = b' ∧ n = n' := by simpa using q1
    have hlt : id < ents.length := by rw [hents]; simp; omega
    refine ⟨(hF'f id).2 hlt, ?_, e0, bs[id], q2, ?_, q5⟩
    · have : asgs[id]? = some (some (b, 0, n), true) := by rw [hasgs, List.getElem?_append_left (by omega)]; exact hba
      rw [hg id _ this]
      simp only [shiftA]
      cases γ b <;> simp
    · rw [memOf_eq, hents, List.getElem?_append_left hidb, List.getElem?_eq_getElem hidb]
  obtain ⟨n1, n2⟩ := k5 F' γ' (memOf ents) T1 hz
  obtain ⟨n3, n4⟩ := j6 F' γ' (memOf ents) T2 hz
  have hslots := n1 (by rw [len_eq]; exact hbox) fun t => by
    rw [nth_eq, List.getD_eq_getElem?_getD, List.getElem?_replicate]
    split
    · exact trivial
    · rename_i ht
      have := R.slots t
      rw [nth_eq, List.getD_eq_getElem?_getD, List.getElem?_eq_none (by omega)] at this
      exact this
  rw [len_eq] at hrt
  obtain ⟨r1, r2⟩ := rtOk_map hbox p.rt s.rt hrt
  have hmk : mkSt p (u1 ++ u2) = some ⟨tm, memOf (bs ++ (es ++ es2)), bs.length + es.length + es2.length, p.rt⟩ := by
    unfold mkSt
    rw [len_eq, k1]
    simp only [len_eq, j1]
  have distinct : ∀ b e g base b' e' g' base', memOf ents b = some e → e.own = true → γ' b = some (g, base) → b' ≠ b → memOf ents b' = some e' → γ' b' = some (g', base') → g' ≠ g := fun b e g base b' e' g' base' he ho hgb hne he' hg' => by
    obtain ⟨c, e0, base0, off, n, z1, z2, z3, z4, _⟩ := src b e g base he hgb
    obtain ⟨c', e0', base0', off', n', x1, x2, x3, x4, _⟩ := src b' e' g' base' he' hg'
    rw [ho] at z1
    rw [hasgs] at z1 x1
    exact (R.own c e0 g base0 z2 (z4 ho) z3).2 c' e0' g' base0' (Ne.symm (okAsg_spec hok b b' c off n _ c' off' n' (Ne.symm hne) z1 x1 rfl)) x2 x3
  refine ⟨_, F', γ', hmk, { below := R.below, defers := R.defers, size := ?_, slots := ?_, memr := ?_, own := ?_, nofr := ?_, shr := ?_, bnd := ?_, maps := ?_, zok := ?_, rts := r2 }, fun b hb => by have := (hF'f b).1 hb; rw [hents] at this; simp at this ⊢; omega, r1⟩
  · rw [← hents]
    intro b e he
    have he : memOf ents b = some e := he
    have he2 := he
    rw [memOf_eq] at he2
    refine ⟨(hF'f b).2 (List.getElem?_eq_some_iff.1 he2).1, ?_⟩
    rw [hents] at he2
    by_cases hb : b < bs.length
    · rw [List.getElem?_append_left hb] at he2
      have := n3 (by rw [len_eq]; exact hbox) 0 (fun i x hx => by rw [Nat.zero_add]; exact hg i x (by rw [hasgs, List.getElem?_append_left (List.getElem?_eq_some_iff.1 hx).1]; exact hx)) b e he2
      rwa [Nat.zero_add] at this
    · rw [List.getElem?_append_right (by omega)] at he2
      by_cases hb2 : b - bs.length < es.length
      · rw [List.getElem?_append_left hb2] at he2
        have := n2 _ e he2
        rwa [show p.boxes.length + (b - bs.length) = b by omega] at this
      · rw [List.getElem?_append_right (by omega)] at he2
        have := n4 _ e he2
        rwa [show p.boxes.length + es.length + (b - bs.length - es.length) = b by omega] at this
  · rw [← hents]
    intro b e g base he ho hgb
    obtain ⟨c, e0, base0, off, n, z1, z2, z3, z4, _⟩ := src b e g base he hgb
    exact ⟨(R.own c e0 g base0 z2 (z4 ho) z3).1, fun b' e' g' base' hne he' hg' => distinct b e g base b' e' g' base' he ho hgb hne he' hg'⟩
  · rw [← hents]
    intro b e g base he ho hgb
    obtain ⟨c, e0, base0, off, n, z1, z2, z3, z4, _⟩ := src b e g base he hgb
    exact R.nofr c e0 g base0 z2 (z4 ho) z3
  · rw [← hents]
    intro b e g base he ho hgb
    rw [hF']
    exact (hZc g).2 (.inr ⟨b, e, base, he, ho, hgb⟩)
  · rw [← hents]
    intro b e g base he hgb
    obtain ⟨c, e0, base0, off, n, z1, z2, z3, z4, _⟩ := src b e g base he hgb
    exact R.bnd c e0 g base0 z2 z3
  · rw [← hents]
    intro b o kk vk xs g base he hgb
    obtain ⟨c, ⟨o0, blk0⟩, base0, off, n, z1, z2, z3, z4, z5⟩ := src b _ g base he hgb
    have := z5 kk vk xs rfl
    simp only at this
    subst this
    exact R.maps c o0 kk vk xs g base0 z2 z3
  · rw [← hents]
    intro g hzg
    rw [hF'] at hzg
    rcases (hZc g).1 hzg with h | ⟨b, e, base, h1, h2, h3⟩
    · refine ⟨(R.zok g h).1, (R.zok g h).2.1, fun b e base he ho hgb => ?_⟩
      obtain ⟨c, e0, base0, off, n, z1, z2, z3, z4, _⟩ := src b e g base he hgb
      exact (R.zok g h).2.2 c e0 base0 z2 (z4 ho) z3
    · obtain ⟨c, e0, base0, off, n, z1, z2, z3, z4, _⟩ := src b e g base h1 h3
      refine ⟨R.bnd c e0 g base0 z2 z3, ?_, fun b' e' base' he ho hgb => ?_⟩
      · cases hoc : e0.own with
        | true => exact .inr (R.own c e0 g base0 z2 hoc z3).1
        | false => exact (R.zok g (R.shr c e0 g base0 z2 hoc z3)).2.1
      · refine distinct b' e' g base' b e g base he ho hgb (fun e' => ?_) h1 h3 rfl
        subst e'
        have he : memOf ents b = some _ := he
        rw [h1] at he
        obtain rfl := Option.some.inj he
        rw [ho] at h2; cases h2
  · rw [R.size, hnt]; simp [k4]
  · rw [← hents]; exact hslots
/-- A state read by a shape is what that shape tells. -/
theorem rdSt_ok {p : Pat} {us : List U} (h : rdSt p s = some us) (R : Rel A w0 F γ s a w) : ∃ s' F' γ', mkSt p us = some s' ∧ Rel A w0 F' γ' s' a w ∧ (∀ b, F' b → b < s'.nx) ∧ s'.rt.map γ' = s.rt.map γ := by
  obtain ⟨F1, f1, ms, R1⟩ := R.frz (frSt p s)
  unfold rdSt at h
  have := rdStF_ok h R1
  exact this
def Ex.to : Ex → Exit
  | .normal => .normal
  | .exit i => .exit i
  | .ret => .ret
  | .pan t n => .panic [{ v := .iface t (.int .i64 n), recovered := false }]
/-- What code comes to, as the abstract interpreter tells it. -/
def Comes (P : Program) (A : Ctx) (w0 : World) (c : Code) (s : St) (e : Ex) (s' : St) : Prop :=
  ∀ (a : Act) (w : World) (F : NS) (γ : GM), Rel A w0 F γ s a w → (∀ b, F b → b < s.nx) → c.wp P (fun ex a' w' => ex = e.to ∧ ∃ F' γ', Rel A w0 F' γ' s' a' w' ∧ (∀ b, F' b → b < s'.nx) ∧ s'.rt.map γ' = s.rt.map γ) a w
theorem Ext.rt {F' : NS} {γ' : GM} (h : Ext F γ F' γ') {l : List Nat} (hl : ∀ b ∈ l, F b) : l.map γ' = l.map γ := List.map_congr_left fun b hb => h.2 b (hl b hb)
theorem pkey_mod (f : Nat) (h : f < 1000000) : (f + 2000000) % 1000000 = f := by omega
theorem panCall_spec {env : FuncId → Option Spec} {o : Oper} {s : St} {sp : Spec} {l : List SV} (h : panCall env o s = some (sp, l)) : ∃ x args ats f, o.guard = none ∧ o.op = .call { callee := .value x, args := args, argTypes := ats } ∧ s.ev x = .pv (.one (.val (.func (.func f) ⟨[]⟩ ⟨[]⟩))) ∧ f < 1000000 ∧ env (f + 2000000) = some sp ∧ l = args.toList.map s.ev := by
  unfold panCall at h
  split at h
  · rename_i x args ats ho hg
    split at h
    · rename_i f hx
      split at h
      · rename_i hf
        split at h
        · rename_i sp' hsp
          simp only [Option.some.injEq, Prod.mk.injEq] at h
          obtain ⟨rfl, rfl⟩ := h
          exact ⟨x, args, ats, f, hg, ho, hx, hf, hsp, rfl⟩
        · cases h
      · cases h
    · cases h
  · cases h
theorem panOp_spec {o : Oper} {s : St} {t : Nat} {n : Int} (h : panOp o s = some (t, n)) : ∃ x, o.guard = none ∧ o.op = .panic x ∧ s.ev x = .pv (.one (.val (.iface t (.int .i64 n)))) := by
  unfold panOp at h
  split at h
  · rename_i x ho hg
    split at h
    · rename_i t' n' hx
      simp only [Option.some.injEq, Prod.mk.injEq] at h
      obtain ⟨rfl, rfl⟩ := h
      exact ⟨x, hg, ho, hx⟩
    · cases h
  · cases h
/-- What a call of a function that may panic comes to. -/
theorem exCallP_den {sp : Spec} {l : List SV} {μ : Nat → Option Ent} {nid : Nat} {z : Out ⊕ (Nat × Int × List (Nat × Option Ent))} (h : (exCallP sp l μ nid).den = some z) :
    ∃ ps us as r ok t n vs0, pvs l = some ps ∧ rdPs (updM μ (frz μ (frPs μ sp.args ps))) sp.args ps = some (us, as) ∧ okAsg as = true ∧ rootsOk sp.args ps = true ∧ sp.G us = some r ∧ sp.enc r = .b ok :: .i t :: .i n :: vs0 ∧
      ((ok = true ∧ ∃ vs es ru, mkPs nid (sp.res ++ outsOf sp.args) vs0 = some (vs, es, []) ∧ es.length ≤ 64 ∧ rootUpd nid as es (rootIds 0 sp.args) (rootIds (entsPs sp.res) (outsOf sp.args)) = some ru ∧
          z = .inl ⟨resSV (takeL (len sp.res) vs), frz μ (frPs μ sp.args ps) ++ (gone as ++ (entsUpd nid es ++ (ru ++ shIf (anyRo es || roPs (sp.res ++ outsOf sp.args)) (shared as (updM μ (frz μ (frPs μ sp.args ps)))))))⟩) ∨
       (ok = false ∧ z = .inr (t.toNat, n, frz μ (frPs μ sp.args ps) ++ gone as))) := by
  unfold exCallP at h
  split at h
  case h_1 => exact (den_fail h).elim
  rename_i ps hps
  split at h
  case h_1 => exact (den_fail h).elim
  rename_i us as hrd
  split at h
  case h_1 => exact (den_fail h).elim
  rename_i hokk
  obtain ⟨hok, hrok⟩ : okAsg as = true ∧ rootsOk sp.args ps = true := by simpa using hokk
  simp only [T.den] at h
  cases hG : sp.G us with
  | none => rw [hG] at h; cases h
  | some r =>
  rw [hG] at h
  simp only [Option.bind_some] at h
  split at h
  case h_2 => exact (den_fail h).elim
  rename_i ok t n vs0 henc
  refine ⟨ps, us, as, r, ok, t, n, vs0, hps, hrd, hok, hrok, hG, henc, ?_⟩
  simp only [T.den] at h
  split at h
  · rename_i hokt
    left
    refine ⟨hokt, ?_⟩
    split at h
    case h_2 => exact (den_fail h).elim
    rename_i vs es hmk
    split at h
    case isFalse => exact (den_fail h).elim
    rename_i hes
    rw [len_eq] at hes
    split at h
    case h_2 => exact (den_fail h).elim
    rename_i ru hru
    exact ⟨vs, es, ru, hmk, hes, hru, (Option.some.inj h).symm⟩
  · rename_i hokf
    exact .inr ⟨by simpa using hokf, (Option.some.inj h).symm⟩
theorem runLX_ok {env : FuncId → Option Spec} (hE : EnvOk P env) {ops : Array Oper} {nx : Nat} {Q : Exit → Act → World → Prop} {ex : Ex} {s' : St} {F0 : NS} {γ0 : GM} (hQ : ∀ a' w' F' γ', Rel A w0 F' γ' s' a' w' → (∀ b, F' b → b < s'.nx) → Ext F0 γ0 F' γ' → Q ex.to a' w') :
    ∀ (l : List Oper) (i : Nat) (s : St) (a : Act) (w : World) (F : NS) (γ : GM), Rel A w0 F γ s a w → (∀ b, F b → b < nx + 64 * i) → Ext F0 γ0 F γ → (runLX P env ops.toList nx l i s).den = some (ex, s') → wpList P ops Q l a w
  | [], i, s, a, w, F, γ, R, hF, hx, h => by
    simp only [runLX, T.den, Option.some.injEq, Prod.mk.injEq] at h
    obtain ⟨rfl, rfl⟩ := h
    exact wpList_nil (hQ a w F γ (R.nx _) hF hx)
  | o :: l, i, s, a, w, F, γ, R, hF, hx, h => by
    have hfree : ∀ q, nx + 64 * i ≤ q → q < nx + 64 * i + 64 → ¬ F q := fun q h1 h2 hb => by have := hF q hb; omega
    refine wpList_step fun K hK => ?_
    simp only [runLX] at h
    split at h
    · rename_i t n hp
      simp only [T.den, Option.some.injEq, Prod.mk.injEq] at h
      obtain ⟨rfl, rfl⟩ := h
      obtain ⟨x, hg, ho, hxv⟩ := panOp_spec hp
      have hv : a.eval x = .iface t (.int .i64 n) := by have := R.ev x; rw [hxv] at this; exact this
      rw [if_pos (by simp [Region.wanted, hg])]
      unfold Oper.wp
      have hexec : (execOp a.eval o).run P w = .halt (.panic (.iface t (.int .i64 n))) w := by
        simp only [execOp, ho, hv]
        rfl
      rw [hexec, Oper.upon_panic]
      exact hQ a w F γ (R.nx _) hF hx
    · split at h
      · rename_i sp l0 hpc
        obtain ⟨x, args, ats, f, hg, ho, hxv, hf6, hsp, rfl⟩ := panCall_spec hpc
        have hv : a.eval x = .func (.func f) #[] #[] := by have := R.ev x; rw [hxv] at this; exact this
        rw [if_pos (by simp [Region.wanted, hg])]
        rw [T.den_bind] at h
        cases hz : (exCallP sp (args.toList.map s.ev) s.mem (nx + 64 * i)).den with
        | none => rw [hz] at h; cases h
        | some z =>
        rw [hz] at h
        simp only [Option.bind_some] at h
        obtain ⟨ps, us, as, r, ok, t, n, vs0, hps, hrd, hok, hrok, hG, henc, hcase⟩ := exCallP_den hz
        have hE2 := (hE (f + 2000000) sp hsp).2 (Nat.le_add_left _ _)
        rw [pkey_mod f hf6] at hE2
        obtain ⟨hcal, hPF⟩ := hE2
        obtain ⟨hP1, hP2⟩ := hPF us r hG ok t n vs0 henc
        rcases hcase with ⟨hokt, vs, es, ru, hmk, hes, hru, rfl⟩ | ⟨hokf, rfl⟩
        · simp only at h
          refine call_core R hfree ho hv hps hrd hok hrok hmk hes hru (.inl ⟨hcal, hP1 hokt⟩) K Q fun V w' F' γ' R' hF' hx' => hK _ _ ?_
          exact runLX_ok hE hQ l (i + 1) _ _ w' F' γ' R' (fun b hb => by
            rcases hF' b hb with h | h
            · have := hF b h; omega
            · omega) (hx.trans hx') h
        · simp only [T.den, Option.some.injEq, Prod.mk.injEq] at h
          obtain ⟨rfl, rfl⟩ := h
          refine call_pan R ho hv hps hrd hok hrok ⟨hcal, hP2 hokf⟩ fun w' F' hF' R' => ?_
          exact hQ a w' F' γ (R'.nx _) (fun b hb => hF b ((hF' b).1 hb)) (hx.trans ⟨fun b hb => (hF' b).2 hb, fun _ _ => rfl⟩)
      · rw [T.den_bind] at h
        cases hx1 : (step1 P env ops.toList (nx + 64 * i) o s).den with
        | none => rw [hx1] at h; cases h
        | some s1 =>
          rw [hx1] at h
          simp only [Option.bind_some] at h
          refine step_ok hE R hfree hx1 (fun a' w' F' γ' R' hF' hx' => hK a' w' ?_)
          exact runLX_ok hE hQ l (i + 1) s1 a' w' F' γ' R' (fun b hb => by
            rcases hF' b hb with h | h
            · have := hF b h; omega
            · omega) (hx.trans hx') h
theorem runLX_rt {env : FuncId → Option Spec} {ops : List Oper} {nx : Nat} : ∀ (l : List Oper) (i : Nat) (s : St) (ex : Ex) (s' : St), (runLX P env ops nx l i s).den = some (ex, s') → s'.rt = s.rt
  | [], i, s, ex, s', h => by
    simp only [runLX, T.den, Option.some.injEq, Prod.mk.injEq] at h
    obtain ⟨_, rfl⟩ := h; rfl
  | o :: l, i, s, ex, s', h => by
    simp only [runLX] at h
    split at h
    · simp only [T.den, Option.some.injEq, Prod.mk.injEq] at h
      obtain ⟨_, rfl⟩ := h; rfl
    · split at h
      · rw [T.den_bind] at h
        rename_i sp l0 hpc
        cases hz : (exCallP sp l0 s.mem (nx + 64 * i)).den with
        | none => rw [hz] at h; cases h
        | some z =>
        rw [hz] at h
        simp only [Option.bind_some] at h
        split at h
        · have := runLX_rt l (i + 1) _ ex s' h
          exact this
        · simp only [T.den, Option.some.injEq, Prod.mk.injEq] at h
          obtain ⟨_, rfl⟩ := h; rfl
      · rw [T.den_bind] at h
        cases hx1 : (step1 P env ops (nx + 64 * i) o s).den with
        | none => rw [hx1] at h; cases h
        | some s1 =>
          rw [hx1] at h
          simp only [Option.bind_some] at h
          exact (runLX_rt l (i + 1) s1 ex s' h).trans (step1_rt hx1)
theorem curL_rt : ∀ (os : List Oper) (ds : List Did) (i : Nat) (p : Nat → Bool) (s : St), (curL os ds i p s).rt = s.rt
  | o :: os, d :: ds, i, p, s => by
    simp only [curL]; rw [curL_rt os ds]; split <;> rfl
  | [], _, _, _, s => by simp [curL]
  | _ :: _, [], _, _, s => by simp [curL]
theorem runDraw_rt {env : FuncId → Option Spec} {ops : List Oper} {s s' : St} (h : (runDraw P env ops s).den = some s') : s'.rt = s.rt := by
  unfold runDraw at h
  rw [T.den_bind] at h
  cases hx : (runD P env ops s.nx ops 0 s).den with
  | none => rw [hx] at h; cases h
  | some y =>
    obtain ⟨ds, s1⟩ := y
    rw [hx] at h
    simp only [Option.bind_some] at h
    split at h
    · simp only [T.den, Option.some.injEq] at h
      subst h
      obtain ⟨_, i2, _⟩ := runD_spec _ _ _ _ _ hx
      rw [i2]; exact curL_rt _ _ _ _ _
    · exact (den_fail h).elim
def LoopOk (P : Program) (body : Code) : LS → Prop
  | .one pre β ex post L enc => ∀ us r, L us = some r → ∀ s s' e vs, mkSt pre us = some s → exOut ex (enc r) = some (e, vs) → mkSt post vs = some s' → ∀ A w0, Comes P A w0 (.loop body) s e s'
  | .two pre β γ ex post ex' post' L enc enc' => ∀ us r, L us = some r → ∀ s, mkSt pre us = some s → match r with
    | .inl r => ∀ s' e vs, exOut ex (enc r) = some (e, vs) → mkSt post vs = some s' → ∀ A w0, Comes P A w0 (.loop body) s e s'
    | .inr r => ∀ s' e vs, exOut ex' (enc' r) = some (e, vs) → mkSt post' vs = some s' → ∀ A w0, Comes P A w0 (.loop body) s e s'
/-- What is known of the loops of a text holds. -/
def LpOk (P : Program) (lenv : Nat → Option LS) : Code → Prop
  | .seq a b => LpOk P lenv a ∧ LpOk P lenv b
  | .cond _ a b => LpOk P lenv a ∧ LpOk P lenv b
  | .block _ c => LpOk P lenv c
  | .loop c => ∀ k ls, key c = some k → lenv k = some ls → LoopOk P c ls
  | _ => True
theorem Comes.rt {c : Code} {r r2 : List (Option (Nat × Nat))} {e : Ex} {s' : St} (h : r2 = r) (h2 : c.wp P (fun ex a' w' => ex = e.to ∧ ∃ F' γ', Rel A w0 F' γ' s' a' w' ∧ (∀ b, F' b → b < s'.nx) ∧ s'.rt.map γ' = r2) a w) :
    c.wp P (fun ex a' w' => ex = e.to ∧ ∃ F' γ', Rel A w0 F' γ' s' a' w' ∧ (∀ b, F' b → b < s'.nx) ∧ s'.rt.map γ' = r) a w := h ▸ h2
theorem cond_slot (R : Rel A w0 F γ s a w) {t : Tmp} {x : Bool} (h : nth undefS s.tmps t = .pv (.one (.val (.bool x)))) : a.eval (.tmp t) = .bool x := by
  have := R.slots t; rw [h] at this; exact this
theorem runC_ok (hmix : P.follows .mixedOrders = true) {env : FuncId → Option Spec} (hE : EnvOk P env) {lenv : Nat → Option LS} : ∀ (c : Code), LpOk P lenv c → ∀ (s : St) (e : Ex) (s' : St), (runC P env lenv c s).den = some (e, s') → ∀ A w0, Comes P A w0 c s e s'
  | .skip, _, s, e, s', h, A, w0 => by
    simp only [runC, T.den, Option.some.injEq, Prod.mk.injEq] at h
    obtain ⟨rfl, rfl⟩ := h
    exact fun a w F γ R hF => wp_skip ⟨rfl, F, γ, R, hF, rfl⟩
  | .ret, _, s, e, s', h, A, w0 => by
    simp only [runC, T.den, Option.some.injEq, Prod.mk.injEq] at h
    obtain ⟨rfl, rfl⟩ := h
    exact fun a w F γ R hF => wp_ret ⟨rfl, F, γ, R, hF, rfl⟩
  | .exit id, _, s, e, s', h, A, w0 => by
    simp only [runC, T.den, Option.some.injEq, Prod.mk.injEq] at h
    obtain ⟨rfl, rfl⟩ := h
    exact fun a w F γ R hF => wp_exit ⟨rfl, F, γ, R, hF, rfl⟩
  | .seq x y, hl, s, e, s', h, A, w0 => by
    simp only [runC] at h
    rw [T.den_bind] at h
    cases hx : (runC P env lenv x s).den with
    | none => rw [hx] at h; cases h
    | some z =>
      obtain ⟨e1, s1⟩ := z
      rw [hx] at h
      simp only [Option.bind_some] at h
      intro a w F γ R hF
      refine wp_seq (wp_mono (runC_ok hmix hE x hl.1 s e1 s1 hx A w0 a w F γ R hF) ?_)
      rintro ex a' w' ⟨rfl, F', γ', R', hF', hrt⟩
      cases e1 with
      | normal =>
        refine wp_mono (runC_ok hmix hE y hl.2 s1 e s' h A w0 a' w' F' γ' R' hF') ?_
        rintro ex a2 w2 ⟨h1, F2, γ2, R2, hF2, hrt2⟩
        exact ⟨h1, F2, γ2, R2, hF2, hrt2.trans hrt⟩
      | exit i =>
        simp only [T.den, Option.some.injEq, Prod.mk.injEq] at h
        obtain ⟨rfl, rfl⟩ := h
        exact ⟨rfl, F', γ', R', hF', hrt⟩
      | ret =>
        simp only [T.den, Option.some.injEq, Prod.mk.injEq] at h
        obtain ⟨rfl, rfl⟩ := h
        exact ⟨rfl, F', γ', R', hF', hrt⟩
      | pan t n =>
        simp only [T.den, Option.some.injEq, Prod.mk.injEq] at h
        obtain ⟨rfl, rfl⟩ := h
        exact ⟨rfl, F', γ', R', hF', hrt⟩
  | .cond c x y, hl, s, e, s', h, A, w0 => by
    intro a w F γ R hF
    simp only [runC] at h
    split at h
    · rename_i t
      split at h
      · rename_i b hb
        simp only [T.den] at h
        have hv := cond_slot R hb
        split at h
        · rename_i hbt
          subst hbt
          exact wp_cond_true hv (runC_ok hmix hE x hl.1 _ e s' h A w0 a w F γ (R.lit hb) hF)
        · rename_i hbf
          have hbf : b = false := by simpa using hbf
          subst hbf
          exact wp_cond_false hv (runC_ok hmix hE y hl.2 _ e s' h A w0 a w F γ (R.lit hb) hF)
      · exact (den_fail h).elim
    · rename_i b
      simp only [T.den] at h
      split at h
      · rename_i hbt
        subst hbt
        exact wp_cond_true rfl (runC_ok hmix hE x hl.1 _ e s' h A w0 a w F γ R hF)
      · rename_i hbf
        have hbf : b = false := by simpa using hbf
        subst hbf
        exact wp_cond_false rfl (runC_ok hmix hE y hl.2 _ e s' h A w0 a w F γ R hF)
    · exact (den_fail h).elim
  | .block id c, hl, s, e, s', h, A, w0 => by
    simp only [runC] at h
    rw [T.den_bind] at h
    cases hx : (runC P env lenv c s).den with
    | none => rw [hx] at h; cases h
    | some z =>
      obtain ⟨e1, s1⟩ := z
      rw [hx] at h
      simp only [Option.bind_some] at h
      intro a w F γ R hF
      refine wp_block (wp_mono (runC_ok hmix hE c hl s e1 s1 hx A w0 a w F γ R hF) ?_)
      rintro ex a' w' ⟨rfl, F', γ', R', hF', hrt⟩
      cases e1 with
      | normal =>
        simp only [T.den, Option.some.injEq, Prod.mk.injEq] at h
        obtain ⟨rfl, rfl⟩ := h
        exact ⟨rfl, F', γ', R', hF', hrt⟩
      | ret =>
        simp only [T.den, Option.some.injEq, Prod.mk.injEq] at h
        obtain ⟨rfl, rfl⟩ := h
        exact ⟨rfl, F', γ', R', hF', hrt⟩
      | pan t n =>
        simp only [T.den, Option.some.injEq, Prod.mk.injEq] at h
        obtain ⟨rfl, rfl⟩ := h
        exact ⟨rfl, F', γ', R', hF', hrt⟩
      | exit i =>
        simp only [Ex.to, Exit.inBlock]
        simp only at h
        split at h
        · rename_i hi
          simp only [T.den, Option.some.injEq, Prod.mk.injEq] at h
          obtain ⟨rfl, rfl⟩ := h
          rw [if_pos (by simpa using hi)]
          exact ⟨rfl, F', γ', R', hF', hrt⟩
        · rename_i hi
          simp only [T.den, Option.some.injEq, Prod.mk.injEq] at h
          obtain ⟨rfl, rfl⟩ := h
          rw [if_neg (by simpa using hi)]
          exact ⟨rfl, F', γ', R', hF', hrt⟩
  | .region id ops d, hl, s, e, s', h, A, w0 => by
    intro a w F γ R hF
    simp only [runC] at h
    split at h
    · exact wp_region_list (runLX_ok hE (fun a' w' F' γ' R' hF' hx' => ⟨rfl, F', γ', R', hF', by rw [runLX_rt _ _ _ _ _ h]; exact hx'.rt R.rts⟩) ops.toList 0 s a w F γ R (fun b hb => by have := hF b hb; omega) (Ext.refl F γ) h)
    · rw [T.den_bind] at h
      cases hx : (runDraw P env ops.toList s).den with
      | none => rw [hx] at h; cases h
      | some s1 =>
        rw [hx] at h
        simp only [Option.bind_some, T.den, Option.some.injEq, Prod.mk.injEq] at h
        obtain ⟨rfl, rfl⟩ := h
        exact draw_ok hmix hE R hF hx fun a' w' F' γ' R' hF' hx' => ⟨rfl, F', γ', R', hF', by rw [runDraw_rt hx]; exact hx'.rt R.rts⟩
  | .loop c, hl, s, e, s', h, A, w0 => by
    simp only [runC] at h
    split at h
    · rename_i k hk
      unfold runLoop at h
      split at h
      · rename_i pre β ex post L enc hls
        have hok := hl k _ hk hls
        split at h
        · rename_i us hus
          simp only [T.den] at h
          cases hL : L us with
          | none => rw [hL] at h; cases h
          | some r =>
            rw [hL] at h
            simp only [Option.bind_some] at h
            split at h
            · rename_i e1 vs hexo
              split at h
              · rename_i s1 hs1
                simp only [T.den, Option.some.injEq, Prod.mk.injEq] at h
                obtain ⟨rfl, rfl⟩ := h
                intro a w F γ R hF
                obtain ⟨s2, F2, γ2, hmk, R2, hF2, hrt⟩ := rdSt_ok hus R
                exact Comes.rt hrt (hok us r hL s2 s1 _ vs hmk hexo hs1 A w0 a w F2 γ2 R2 hF2)
              · exact (den_fail h).elim
            · exact (den_fail h).elim
        · exact (den_fail h).elim
      · rename_i pre β γ0 ex post ex' post' L enc enc' hls
        have hok := hl k _ hk hls
        split at h
        · rename_i us hus
          simp only [T.den] at h
          cases hL : L us with
          | none => rw [hL] at h; simp [casO] at h
          | some r =>
            rw [hL] at h
            simp only [casO, Option.bind_some] at h
            intro a w F γ R hF
            obtain ⟨s2, F2, γ2, hmk, R2, hF2, hrt⟩ := rdSt_ok hus R
            have hok2 := hok us r hL s2 hmk
            cases r with
            | inl r =>
              simp only at h
              split at h
              · rename_i e1 vs hexo
                split at h
                · rename_i s1 hs1
                  simp only [T.den, Option.some.injEq, Prod.mk.injEq] at h
                  obtain ⟨rfl, rfl⟩ := h
                  exact Comes.rt hrt (hok2 s1 _ vs hexo hs1 A w0 a w F2 γ2 R2 hF2)
                · exact (den_fail h).elim
              · exact (den_fail h).elim
            | inr r =>
              simp only at h
              split at h
              · rename_i e1 vs hexo
                split at h
                · rename_i s1 hs1
                  simp only [T.den, Option.some.injEq, Prod.mk.injEq] at h
                  obtain ⟨rfl, rfl⟩ := h
                  exact Comes.rt hrt (hok2 s1 _ vs hexo hs1 A w0 a w F2 γ2 R2 hF2)
                · exact (den_fail h).elim
              · exact (den_fail h).elim
        · exact (den_fail h).elim
      · exact (den_fail h).elim
    · exact (den_fail h).elim
  | .rangeFunc .., _, s, e, s', h, A, w0 => by simp [runC, T.den] at h
  | .scope _, _, s, e, s', h, A, w0 => by simp [runC, T.den] at h
  | .label _, _, s, e, s', h, A, w0 => by simp [runC, T.den] at h
  | .goto _, _, s, e, s', h, A, w0 => by simp [runC, T.den] at h
  | .refuse _, _, s, e, s', h, A, w0 => by simp [runC, T.den] at h
end
end Go.Proofs.Ytmmaechogibodaa.Vm

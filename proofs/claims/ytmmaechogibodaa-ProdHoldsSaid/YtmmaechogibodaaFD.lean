import Derived.Test.YtmmaechogibodaaVmY
import Derived.Test.YtmmaechogibodaaVmRc
import Derived.Test.YtmmaechogibodaaVmCl
import Derived.Test.YtmmaechogibodaaProg
import Derived.Test.YtmmaechogibodaaVmRg
import Derived.Test.YtmmaechogibodaaFA
import Derived.Test.YtmmaechogibodaaFB
import Derived.Test.YtmmaechogibodaaFV
import Derived.Test.YtmmaechogibodaaFC
namespace Go.Proofs.Ytmmaechogibodaa.F
open Go Go.Proofs.Ytmmaechogibodaa.Vm
set_option maxRecDepth 1000000
set_option linter.unusedVariables false
set_option linter.unusedSimpArgs false
noncomputable section
-- (*passbook/prod.Catalogue).At: by hand (a range over slices.Backward)
namespace At
noncomputable abbrev P : Program := Go.Proofs.Try.prog
noncomputable abbrev env (K : Nat) := env__prod_Catalogue_List K
noncomputable abbrev Lp : List Sh := [.int .i64, .int .i64, .int .i64, .int .i64, .int .i64, .int .i64, .int .i64, .int .i64, .sl [.int .i64, .int .i64]]
noncomputable def sq1 : Code → Code
  | .seq a _ => a
  | c => c
noncomputable def sq2 : Code → Code
  | .seq _ b => b
  | c => c
noncomputable def blkC : Code → Code
  | .block _ c => c
  | c => c
noncomputable def asgC : Code → Code
  | .rangeFunc _ _ a _ => a
  | c => c
noncomputable def bdyC : Code → Code
  | .rangeFunc _ _ _ b => b
  | c => c
noncomputable def opsC : Code → Array Oper
  | .region _ ops _ => ops
  | _ => #[]
noncomputable abbrev b19 : Code := bodyOf Go.Proofs.Try.f19
noncomputable def R0 : Code := sq1 b19
noncomputable def C1 : Code := sq1 (sq2 b19)
noncomputable def C2 : Code := sq1 (sq2 (sq2 b19))
noncomputable def X3 : Code := sq2 (sq2 (sq2 b19))
noncomputable def R5 : Code := sq1 (sq1 X3)
noncomputable def RF : Code := blkC (sq2 (sq1 X3))
noncomputable def X4 : Code := sq2 X3
noncomputable def asg : Code := asgC RF
noncomputable def bdy : Code := bdyC RF
noncomputable def ops5 : Array Oper := opsC R5
theorem b19_eq : b19 = .seq R0 (.seq C1 (.seq C2 (.seq (.seq R5 (.block 0 (.rangeFunc (.tmp 24) #[25, 26] asg bdy))) X4))) := by kernel_rfl
theorem R5_eq : R5 = .region 5 ops5 false := by kernel_rfl
noncomputable def v64 : Value → Option Int
  | .int k x => if k = .i64 then some x else none
  | _ => none
noncomputable def isNil : Value → Bool
  | .slice none a b => a == 0 && b == 0
  | _ => false
noncomputable def isI0 (v : Value) : Bool := match v64 v with | some x => decide (x = 0) | none => false
noncomputable def zs : Nat → List CV → Bool
  | 0, [.val v] => isNil v
  | n + 1, .val v :: l => isI0 v && zs n l
  | _, _ => false
noncomputable def isZ (l : List CV) : Bool := zs 8 l
noncomputable def isZ1 : List CV → Bool
  | [.val v] => isI0 v
  | _ => false
noncomputable def one64 : List CV → Option Int
  | [.val v] => v64 v
  | _ => none
noncomputable def ints : Nat → List CV → Option (List Int × Nat)
  | 0, [.slf b] => some ([], b)
  | n + 1, .val v :: l => match v64 v, ints n l with | some x, some (xs, b) => some (x :: xs, b) | _, _ => none
  | _, _ => none
noncomputable def z6 : List CV := [.val (.int .i64 0), .val (.int .i64 0), .val (.int .i64 0), .val (.int .i64 0), .val (.int .i64 0), .val (.int .i64 0), .val (.int .i64 0), .val (.int .i64 0), .val (.slice none 0 0)]
noncomputable def z7 : List CV := [.val (.int .i64 0)]
theorem v64_spec {v : Value} {x : Int} (h : v64 v = some x) : v = .int .i64 x := by
  unfold v64 at h
  split at h
  · split at h
    · rename_i e; obtain rfl := Option.some.inj h; rw [e]
    · cases h
  · cases h
theorem isI0_spec {v : Value} (h : isI0 v = true) : v = .int .i64 0 := by
  unfold isI0 at h
  split at h
  · rename_i x e
    rw [v64_spec e, show x = 0 by simpa using h]
  · cases h
theorem isNil_spec {v : Value} (h : isNil v = true) : v = .slice none 0 0 := by
  unfold isNil at h
  split at h
  · simp at h; rw [h.1, h.2]
  · cases h
theorem zs_spec : ∀ {n : Nat} {l : List CV}, zs n l = true → l = List.replicate n (.val (.int .i64 0)) ++ [.val (.slice none 0 0)]
  | 0, [.val v], h => by rw [isNil_spec h]; rfl
  | n + 1, .val v :: l, h => by
    simp only [zs, Bool.and_eq_true] at h
    rw [isI0_spec h.1, zs_spec h.2]; rfl
  | 0, [], h => by simp [zs] at h
  | 0, _ :: _ :: _, h => by simp [zs] at h
  | n + 1, [], h => by simp [zs] at h
  | 0, [.ptr ..], h => by simp [zs] at h
  | 0, [.slf ..], h => by simp [zs] at h
  | 0, [.slc ..], h => by simp [zs] at h
  | 0, [.ro ..], h => by simp [zs] at h
  | 0, [.rop ..], h => by simp [zs] at h
  | 0, [.mapr ..], h => by simp [zs] at h
  | 0, [.mptr ..], h => by simp [zs] at h
  | 0, [.dt ..], h => by simp [zs] at h
  | 0, [.any], h => by simp [zs] at h
  | n + 1, .ptr .. :: _, h => by simp [zs] at h
  | n + 1, .slf .. :: _, h => by simp [zs] at h
  | n + 1, .slc .. :: _, h => by simp [zs] at h
  | n + 1, .ro .. :: _, h => by simp [zs] at h
  | n + 1, .rop .. :: _, h => by simp [zs] at h
  | n + 1, .mapr .. :: _, h => by simp [zs] at h
  | n + 1, .mptr .. :: _, h => by simp [zs] at h
  | n + 1, .dt .. :: _, h => by simp [zs] at h
  | n + 1, .any :: _, h => by simp [zs] at h
theorem isZ_spec {c : List CV} (h : isZ c = true) : c = z6 := zs_spec h
theorem isZ1_spec {c : List CV} (h : isZ1 c = true) : c = z7 := by
  unfold isZ1 at h
  split at h
  · rw [isI0_spec h]; rfl
  · cases h
theorem one64_spec {c : List CV} {x : Int} (h : one64 c = some x) : c = [.val (.int .i64 x)] := by
  unfold one64 at h
  split at h
  · rw [v64_spec h]
  · cases h
theorem ints_spec : ∀ {n : Nat} {l : List CV} {xs : List Int} {b : Nat}, ints n l = some (xs, b) → l = xs.map (fun x => .val (.int .i64 x)) ++ [.slf b] ∧ xs.length = n
  | 0, [.slf b'], xs, b, h => by
    simp only [ints, Option.some.injEq, Prod.mk.injEq] at h
    obtain ⟨rfl, rfl⟩ := h
    exact ⟨rfl, rfl⟩
  | n + 1, .val v :: l, xs, b, h => by
    simp only [ints] at h
    split at h
    · rename_i x ys b' hv hl
      simp only [Option.some.injEq, Prod.mk.injEq] at h
      obtain ⟨rfl, rfl⟩ := h
      obtain ⟨h1, h2⟩ := ints_spec hl
      exact ⟨by rw [v64_spec hv, h1]; rfl, by simp [h2]⟩
    · cases h
  | 0, [], xs, b, h => by simp [ints] at h
  | 0, _ :: _ :: _, xs, b, h => by simp [ints] at h
  | n + 1, [], xs, b, h => by simp [ints] at h
  | 0, [.val ..], xs, b, h => by simp [ints] at h
  | 0, [.ptr ..], xs, b, h => by simp [ints] at h
  | 0, [.slc ..], xs, b, h => by simp [ints] at h
  | 0, [.ro ..], xs, b, h => by simp [ints] at h
  | 0, [.rop ..], xs, b, h => by simp [ints] at h
  | 0, [.mapr ..], xs, b, h => by simp [ints] at h
  | 0, [.mptr ..], xs, b, h => by simp [ints] at h
  | 0, [.dt ..], xs, b, h => by simp [ints] at h
  | 0, [.any], xs, b, h => by simp [ints] at h
  | n + 1, .ptr .. :: _, xs, b, h => by simp [ints] at h
  | n + 1, .slf .. :: _, xs, b, h => by simp [ints] at h
  | n + 1, .slc .. :: _, xs, b, h => by simp [ints] at h
  | n + 1, .ro .. :: _, xs, b, h => by simp [ints] at h
  | n + 1, .rop .. :: _, xs, b, h => by simp [ints] at h
  | n + 1, .mapr .. :: _, xs, b, h => by simp [ints] at h
  | n + 1, .mptr .. :: _, xs, b, h => by simp [ints] at h
  | n + 1, .dt .. :: _, xs, b, h => by simp [ints] at h
  | n + 1, .any :: _, xs, b, h => by simp [ints] at h
structure Seen where
  bl : Nat
  b4 : Nat
  b5 : Nat
  b6 : Nat
  b7 : Nat
  dd : List (List D)
  id : Int
  day : Int
noncomputable def ne (a b : Nat) : Bool := !(a == b)
/-- What stands in the state ahead of the range. -/
noncomputable def see (s : St) : Option Seen :=
  match nth undefS s.tmps 23, nth undefS s.tmps 4, nth undefS s.tmps 5, nth undefS s.tmps 6, nth undefS s.tmps 7 with
  | .pv (.one (.slf bl)), .pv (.one (.ptr b4 0 0 0)), .pv (.one (.ptr b5 0 0 0)), .pv (.one (.ptr b6 0 0 0)), .pv (.one (.ptr b7 0 0 0)) =>
    match s.mem bl, s.mem b4, s.mem b5, s.mem b6, s.mem b7 with
    | some ⟨_, .grow L dd⟩, some ⟨_, .cells c4⟩, some ⟨_, .cells c5⟩, some ⟨true, .cells c6⟩, some ⟨true, .cells c7⟩ =>
      match one64 c4, one64 c5, shsEq L Lp && isZ c6 && isZ1 c7 && ne b6 b4 && ne b6 b5 && ne b6 b7 && ne b6 bl && ne b7 b4 && ne b7 b5 && ne b7 bl && (len s.tmps == 40) with
      | some id, some day, true => some ⟨bl, b4, b5, b6, b7, dd, id, day⟩
      | _, _, _ => none
    | _, _, _, _, _ => none
  | _, _, _, _, _ => none
/-- The state in a round. -/
noncomputable def sR (i : Int) (row : List D) (id day : Int) : St :=
  ⟨put (put (put (put (put (put (List.replicate 40 anyS) 4 (.pv (.one (.ptr 0 0 0 0)))) 5 (.pv (.one (.ptr 1 0 0 0)))) 6 (.pv (.one (.ptr 2 0 0 0)))) 7 (.pv (.one (.ptr 3 0 0 0)))) 25 (.pv (.one (.val (.int .i64 i))))) 26 (.pv (.agg (cvsL Lp row 0))),
   memOf [⟨false, .cells [.val (.int .i64 id)]⟩, ⟨false, .cells [.val (.int .i64 day)]⟩, ⟨true, .cells z6⟩, ⟨true, .cells z7⟩], 4, []⟩
noncomputable abbrev R9 := List Int × List (List Int)
noncomputable def rest_ (s : St) : Bool := match s.mem 2, s.mem 3 with
  | some ⟨true, .cells c⟩, some ⟨true, .cells d⟩ => isZ c && isZ1 d
  | _, _ => false
noncomputable def got (s : St) : Option (Nat × R9) := match s.mem 2, s.mem 3 with
  | some ⟨true, .cells c⟩, some ⟨true, .cells d⟩ => match ints 8 c, isZ1 d with
    | some (xs, bn), true => match ne bn 2 && ne bn 3, s.mem bn with
      | true, some ⟨true, .recs ks ts⟩ => if ks = [.i64, .i64] then some (bn, (xs, ts)) else none
      | _, _ => none
    | _, _ => none
  | _, _ => none
/-- One round. -/
noncomputable def rndT (K : Nat) (i : Int) (row : List D) (id day : Int) : T (Unit ⊕ R9) :=
  (runC P (env K) lenv0 asg (sR i row id day)).bind fun x => match x with
    | (.normal, s1) => (runC P (env K) lenv0 bdy s1).bind fun x => match x with
      | (.normal, s2) => match rest_ s2 with | true => .ret (.inl ()) | false => .fail
      | (.ret, s2) => match got s2 with | some r => .ret (.inr r.2) | none => .fail
      | _ => .fail
    | _ => .fail
noncomputable def rnd (K : Nat) (i : Int) (row : List D) (id day : Int) : Option (Unit ⊕ R9) :=
  bi ((nth d0 row 0).toI == id) (bi (decide ((nth d0 row 3).toI ≤ day))
    ((prod_copied_ro K (nth d0 row 0).toI (nth d0 row 1).toI (nth d0 row 2).toI (nth d0 row 3).toI (nth d0 row 4).toI (nth d0 row 5).toI (nth d0 row 6).toI (nth d0 row 7).toI (nth d0 row 8).toL).bind fun r => some (.inr ([r.1, r.2.1, r.2.2.1, r.2.2.2.1, r.2.2.2.2.1, r.2.2.2.2.2.1, r.2.2.2.2.2.2.1, r.2.2.2.2.2.2.2.1], r.2.2.2.2.2.2.2.2)))
    (some (.inl ()))) (some (.inl ()))
theorem rnd_eq (K : Nat) (i : Int) (row : List D) (id day : Int) : (rndT K i row id day).den2 = rnd K i row id day := by kernel_rfl
/-- The rounds, from the last member on. -/
noncomputable def scan (K : Nat) (dd : List (List D)) (id day : Int) : Nat → Option (Unit ⊕ R9)
  | 0 => some (.inl ())
  | i + 1 => (rnd K (i : Int) (nth [] dd i) id day).bind fun x => match x with
    | .inl _ => scan K dd id day i
    | .inr r => some (.inr r)
noncomputable def args : List PP := [.ptr [.grow Lp, .map [.i64, .i64] [.i64]], .one (.int .i64), .one (.int .i64)]
noncomputable def res : List PP := [.agg [.int .i64, .int .i64, .int .i64, .int .i64, .int .i64, .int .i64, .int .i64, .int .i64, .recs [.i64, .i64] true], .one (.int .i64)]
noncomputable abbrev RT := R9 × Int × List (List D) × List (List Int × List Int)
noncomputable def dec : List U → Option RT := fun u => match u with
  | [.i x0, .i x1, .i x2, .i x3, .i x4, .i x5, .i x6, .i x7, .rr t, .i e, .d dd, .m m] => some (([x0, x1, x2, x3, x4, x5, x6, x7], t), e, dd, m)
  | _ => none
noncomputable def enc : RT → List U := fun r => [.i (nth 0 r.1.1 0), .i (nth 0 r.1.1 1), .i (nth 0 r.1.1 2), .i (nth 0 r.1.1 3), .i (nth 0 r.1.1 4), .i (nth 0 r.1.1 5), .i (nth 0 r.1.1 6), .i (nth 0 r.1.1 7), .rr r.1.2, .i r.2.1, .d r.2.2.1, .m r.2.2.2]
noncomputable def fin (us : List U) (s : St) : T RT := match mkPs 0 args us with
  | some (_, es, _) => (resPVs P s Go.Proofs.Try.f19.results.toList).bind fun vs => endFs es args res dec s vs
  | none => .fail
/-- The state behind a round that answers. -/
noncomputable def sF (s : St) (v : Seen) (r : R9) : St :=
  { s with mem := updM s.mem [(v.b6, some ⟨true, .cells [.val (.int .i64 (nth 0 r.1 0)), .val (.int .i64 (nth 0 r.1 1)), .val (.int .i64 (nth 0 r.1 2)), .val (.int .i64 (nth 0 r.1 3)), .val (.int .i64 (nth 0 r.1 4)), .val (.int .i64 (nth 0 r.1 5)), .val (.int .i64 (nth 0 r.1 6)), .val (.int .i64 (nth 0 r.1 7)), .slf s.nx]⟩), (v.b7, some ⟨true, .cells [.val (.int .i64 0)]⟩), (s.nx, some ⟨true, .recs [.i64, .i64] r.2⟩)], nx := s.nx + 64 }
noncomputable def midT (K : Nat) (us : List U) (s : St) : T RT := match see s with
  | none => .fail
  | some v => T.req (decide (v.dd.length < 4611686018427387904)) (.cas (scan K v.dd v.id v.day v.dd.length)
      (fun _ => (runC P (env K) lenv0 X4 s).bind fun x => match x with | (.ret, s1) => fin us s1 | _ => .fail)
      (fun r => fin us (sF s v r)))
noncomputable def atT (K : Nat) (us : List U) : T RT := match mkPs 0 args us with
  | some (ps, es, []) => (runC P (env K) lenv0 R0 ⟨ps.map .pv ++ List.replicate (Go.Proofs.Try.f19.ntmps - len ps) undefS, memOf es, len es, rootIds 0 args⟩).bind fun x => match x with
    | (.normal, s1) => (runC P (env K) lenv0 C1 s1).bind fun x => match x with
      | (.ret, s2) => fin us s2
      | (.normal, s2) => (runC P (env K) lenv0 C2 s2).bind fun x => match x with
        | (.ret, s3) => fin us s3
        | (.normal, s3) => (runLX P (env K) ops5.toList s3.nx (ops5.toList.take 4) 0 s3).bind fun x => match x with
          | (.normal, s4) => midT K us { s4 with tmps := put s4.tmps 24 anyS }
          | _ => .fail
        | _ => .fail
      | _ => .fail
    | _ => .fail
  | _ => .fail
end At
noncomputable def _prod_Catalogue_At (K : Nat) (dd0_0 : List (List D)) (m0_1 : List (List Int × List Int)) (x1 x2 : Int) : Option At.RT :=
  bi (decide (x2 < 1)) (some (([0, 0, 0, 0, 0, 0, 0, 0], []), 1, dd0_0, m0_1))
    (bi (decide (x2 > 3652059)) (some (([0, 0, 0, 0, 0, 0, 0, 0], []), 1, dd0_0, m0_1))
      (bi (decide (dd0_0.length < 4611686018427387904)) (casO (At.scan K dd0_0 x1 x2 dd0_0.length) (fun _ => some (([0, 0, 0, 0, 0, 0, 0, 0], []), 7, dd0_0, m0_1))
        (fun r => some (([nth 0 r.1 0, nth 0 r.1 1, nth 0 r.1 2, nth 0 r.1 3, nth 0 r.1 4, nth 0 r.1 5, nth 0 r.1 6, nth 0 r.1 7], r.2), 0, dd0_0, m0_1))) none))
theorem _prod_Catalogue_At_eq (K : Nat) (dd0_0 : List (List D)) (m0_1 : List (List Int × List Int)) (x1 x2 : Int) : (At.atT K [.d dd0_0, .m m0_1, .i x1, .i x2]).den2 = _prod_Catalogue_At K dd0_0 m0_1 x1 x2 := by kernel_rfl
end
end Go.Proofs.Ytmmaechogibodaa.F

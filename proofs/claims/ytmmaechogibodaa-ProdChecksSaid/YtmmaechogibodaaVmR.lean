/- The abstract interpreter: regions, code, loops and functions. Conditions: none here. -/
import Derived.Test.YtmmaechogibodaaVmA
set_option linter.unusedVariables false
namespace Go.Proofs.Ytmmaechogibodaa.Vm
open Go

/-- The names of blocks in a value. -/
def idsC : CV → List Nat
  | .val _ => []
  | .ptr b _ _ _ => [b]
  | .slf b => [b]
  | .slc b _ _ => [b]
  | .ro .. => []
  | .rop .. => []
  | .mapr b => [b]
  | .mptr b _ _ => [b]
  | .dt .. => []
  | .any => []
def idsCs : List CV → List Nat
  | [] => []
  | c :: l => idsC c ++ idsCs l
def idsP : PV → List Nat
  | .one c => idsC c
  | .agg l => idsCs l
  | .dat .. => []
def idsPs : List PV → List Nat
  | [] => []
  | p :: l => idsP p ++ idsPs l
def idsS : SV → List Nat
  | .pv p => idsP p
  | .tup l => idsPs l
/-- What an operation of a drawn region has done: its answer (none: it was passed over), the blocks that it looked at. -/
structure Did where
  out : Out
  ids : List Nat
def opSlots (o : Oper) : List Nat := o.op.operands.toList.filterMap fun | .tmp t => some t | _ => none
/-- Which operations look at blocks: none, by one operand, or perhaps by all. -/
inductive Sees where
  | none
  | one (a : Operand)
  | all
  | deep
def sees : Op → Sees
  | .move _ | .assign _ | .pick .. | .alloc _ | .box .. | .build .. | .field .. | .fieldAddr .. | .extract .. | .binOp .. | .unOp .. => .none
  | .call { callee := .value _, .. } => .deep
  | _ => .all
/-- The names in blocks of cells. -/
def idsIn (μ : Nat → Option Ent) : List Nat → List Nat
  | [] => []
  | b :: l => (match μ b with | some ⟨_, .cells cs⟩ => idsCs cs | _ => []) ++ idsIn μ l
def seen (o : Oper) (s : St) : List Nat :=
  match sees o.op with
  | .none => []
  | .one a => idsS (s.ev a)
  | .all => (o.op.operands.toList.map fun x => idsS (s.ev x)).flatten
  | .deep => (o.op.operands.toList.map fun x => idsS (s.ev x)).flatten ++ idsIn s.mem (o.op.operands.toList.map fun x => idsS (s.ev x)).flatten
def meets : List Nat → List Nat → Bool
  | [], _ => false
  | x :: l, m => match mem? x m with | true => true | false => meets l m
def looks (ops : List Oper) (o : Oper) : List Nat := opSlots o ++ (match o.guard with | some (g, _) => (match slotOf ops g with | some t => [t] | none => []) | none => [])
def keys : List (Nat × Option Ent) → List Nat
  | [] => []
  | (q, _) :: r => q :: keys r
def binding (e : Edge) : Bool := match e.ground with | .textOnly _ => false | .gcOnly _ => false | _ => true
def bound (oj : Oper) (i : Nat) : Bool := oj.after.toList.any fun e => binding e && e.on == i
def dstL (o : Oper) : List Nat := match o.dst with | some d => [d] | none => []
/-- Two operations that may stand in either order. -/
def apart (ops : List Oper) (oi oj : Oper) (di dj : Did) : Bool :=
  !(meets (dstL oi) (looks ops oj)) && !(meets (dstL oj) (looks ops oi)) && !(meets (dstL oi) (dstL oj)) &&
  !(meets (keys di.out.upd) dj.ids) && !(meets (keys dj.out.upd) di.ids) && !(meets (keys di.out.upd) (keys dj.out.upd))
/-- Must the i-th come first, by one edge or by several? -/
def reach (ops : List Oper) : Nat → Oper → Nat → Bool
  | 0, o, i => bound o i
  | f + 1, o, i => bound o i || o.after.toList.any fun e => binding e && (match nth? ops e.on with | some o' => reach ops f o' i | none => false)
def freeWith (ops : List Oper) (oi : Oper) (di : Did) (i : Nat) : List Oper → List Did → Bool
  | oj :: os, dj :: ds => (apart ops oi oj di dj || reach ops 8 oj i) && freeWith ops oi di i os ds
  | _, _ => true
def freeAll (ops : List Oper) : List Oper → List Did → Nat → Bool
  | o :: os, d :: ds, i => freeWith ops o d i os ds && freeAll ops os ds (i + 1)
  | _, _, _ => true
/-- Whatever must come first stands first. -/
def edgesOk : List Oper → Nat → Bool
  | [], _ => true
  | o :: os, i => (o.after.toList.all fun e => !binding e || decide (e.on < i)) && edgesOk os (i + 1)
def runD1 (P : Program) (env : FuncId → Option Spec) (nid : Nat) (o : Oper) (s : St) : T (Did × St) :=
  (exOp P env s.ev s.mem nid o).bind fun r => .ret (⟨r, seen o s⟩, s.app o.dst r)
def skipD1 (o : Oper) (s : St) : Did × St := (⟨⟨undefS, []⟩, []⟩, skip1 o s)
def stepD1 (P : Program) (env : FuncId → Option Spec) (ops : List Oper) (nid : Nat) (o : Oper) (s : St) : T (Did × St) :=
  match o.guard with
  | none => runD1 P env nid o s
  | some (g, want) => match slotOf ops g with
    | some t => match nth undefS s.tmps t with
      | .pv (.one (.val (.bool c))) => match want with
        | true => .ite c (runD1 P env nid o (s.lit t true)) (.ret (skipD1 o (s.lit t false)))
        | false => .ite c (.ret (skipD1 o (s.lit t true))) (runD1 P env nid o (s.lit t false))
      | .pv (.one (.val (.tuple ⟨[]⟩))) => .ret (skipD1 o s)
      | _ => .fail
    | none => .fail
def runD (P : Program) (env : FuncId → Option Spec) (ops : List Oper) (nx : Nat) : List Oper → Nat → St → T (List Did × St)
  | [], i, s => .ret ([], s)
  | o :: l, i, s => (stepD1 P env ops (nx + 64 * i) o s).bind fun (d, s') => (runD P env ops nx l (i + 1) s').bind fun (ds, s'') => .ret (d :: ds, s'')
def runDraw (P : Program) (env : FuncId → Option Spec) (ops : List Oper) (s : St) : T St :=
  (runD P env ops s.nx ops 0 s).bind fun (ds, s') => match freeAll ops ops ds 0 && edgesOk ops 0 with
    | true => .ret { s' with nx := s.nx + 64 * len ops }
    | false => .fail

inductive Ex where
  | normal
  | exit (id : Nat)
  | ret
  | pan (t : Nat) (n : Int)
/-- The shape of a state: of slots, and of the blocks that slots point to. -/
inductive SP where
  | pv (p : PP)
  | box (id j : Nat)
  | arr (id : Nat)
  | slf (id : Nat)
  | mapr (id : Nat)
  | mem (id j : Nat) (l : List Sh)
/-- A cell of a block that slots point to: as told by its shape, or a slice that is all of another such block. -/
inductive CR where
  | c (p : CP)
  | ref (id : Nat)
inductive BP where
  | cells (l : List CP)
  | graph (l : List CR)
  | row (k : IntKind)
  | recs (ks : List IntKind)
  | grow (l : List Sh)
  | mem (l : List Sh)
  | map (kk vk : List IntKind)
structure Pat where
  nt : Nat
  slots : List (Nat × SP)
  boxes : List BP
  rt : List Nat
def boxAt (id : Nat) (tmps : List SV) : List (Nat × SP) → Option Nat
  | [] => none
  | (t, .box id' _) :: l => match id == id' with
    | true => match nth undefS tmps t with | .pv (.one (.ptr b 0 0 _)) => some b | _ => none
    | false => boxAt id tmps l
  | (t, .arr id') :: l => match id == id' with
    | true => match nth undefS tmps t with | .pv (.one (.ptr b 0 1 0)) => some b | _ => none
    | false => boxAt id tmps l
  | (t, .slf id') :: l => match id == id' with
    | true => match nth undefS tmps t with | .pv (.one (.slf b)) => some b | _ => none
    | false => boxAt id tmps l
  | (t, .mapr id') :: l => match id == id' with
    | true => match nth undefS tmps t with | .pv (.one (.mapr b)) => some b | _ => none
    | false => boxAt id tmps l
  | (t, .mem id' _ _) :: l => match id == id' with
    | true => match nth undefS tmps t with | .pv (.one (.mptr b _ _)) => some b | _ => none
    | false => boxAt id tmps l
  | (_, .pv _) :: l => boxAt id tmps l
/-- Is it told as the slot's shape says, of that block? -/
def spOk (id nb : Nat) (all : List (Nat × SP)) (tmps : List SV) (b : Nat) : Bool :=
  match boxAt id tmps all with
  | some b' => if b = b' ∧ id < nb then true else false
  | none => false
def rdSlots (m : Nat → Option Ent) (nb : Nat) (all : List (Nat × SP)) (tmps : List SV) : List (Nat × SP) → Option (List U × List (Asg × Bool))
  | [] => some ([], [])
  | (t, .pv p) :: l => match nth undefS tmps t with
    | .pv v => match rdP m p v with
      | some (us, as) => match rdSlots m nb all tmps l with | some (us', as') => some (us ++ us', as ++ as') | none => none
      | none => none
    | _ => none
  | (t, .box id j) :: l => match nth undefS tmps t with
    | .pv (.one (.ptr b 0 0 j')) => match spOk id nb all tmps b, j == j' with
      | true, true => rdSlots m nb all tmps l
      | _, _ => none
    | _ => none
  | (t, .arr id) :: l => match nth undefS tmps t with
    | .pv (.one (.ptr b 0 1 0)) => match spOk id nb all tmps b with
      | true => rdSlots m nb all tmps l
      | false => none
    | _ => none
  | (t, .slf id) :: l => match nth undefS tmps t with
    | .pv (.one (.slf b)) => match spOk id nb all tmps b with
      | true => rdSlots m nb all tmps l
      | false => none
    | _ => none
  | (t, .mapr id) :: l => match nth undefS tmps t with
    | .pv (.one (.mapr b)) => match spOk id nb all tmps b with
      | true => rdSlots m nb all tmps l
      | false => none
    | _ => none
  | (t, .mem id j h) :: l => match nth undefS tmps t with
    | .pv (.one (.mptr b j' h')) => match spOk id nb all tmps b, j == j' && shsEq h h' with
      | true, true => rdSlots m nb all tmps l
      | _, _ => none
    | _ => none
def rdBox (m : Nat → Option Ent) (b : Nat) : BP → Option (List U × Nat × List (Asg × Bool))
  | .row k => match m b with
    | some ⟨true, .row k' xs⟩ => if k = k' then some ([.r xs], 1, []) else none
    | _ => none
  | .recs ks => match m b with
    | some ⟨true, .recs ks' xs⟩ => if ks = ks' then some ([.rr xs], len ks, []) else none
    | _ => none
  | .grow l => match m b with
    | some ⟨true, .grow l' xs⟩ => match shsEq l l' with | true => some ([.d xs], len l, []) | false => none
    | _ => none
  | .mem l => match m b with
    | some ⟨true, .mem l' ds⟩ => match shsEq l l' with | true => some ([.ds ds], 0, []) | false => none
    | _ => none
  | .map kk vk => match m b with
    | some ⟨true, .map kk' vk' es⟩ => if kk = kk' ∧ vk = vk' then some ([.m es], 0, []) else none
    | _ => none
  | .cells ps => match m b with
    | some ⟨true, .cells cs⟩ => match rdCs m ps cs with
      | some (us, as) => some (us, 0, as)
      | none => none
    | _ => none
  | .graph _ => none
def rdCR (m : Nat → Option Ent) (nb : Nat) (all : List (Nat × SP)) (tmps : List SV) : List CR → List CV → Option (List U × List (Asg × Bool))
  | [], [] => some ([], [])
  | .c p :: ps, c :: cs => match rdC m p c with
    | some (u, a) => match rdCR m nb all tmps ps cs with
      | some (us, as) => some (u :: us, a ++ as)
      | none => none
    | none => none
  | .ref id :: ps, .slf b :: cs => match spOk id nb all tmps b with
    | true => rdCR m nb all tmps ps cs
    | false => none
  | _, _ => none
def rdBoxG (m : Nat → Option Ent) (nb : Nat) (all : List (Nat × SP)) (tmps : List SV) (b : Nat) : BP → Option (List U × Nat × List (Asg × Bool))
  | .graph l => match m b with
    | some ⟨true, .cells cs⟩ => match rdCR m nb all tmps l cs with
      | some (us, as) => some (us, 0, as)
      | none => none
    | _ => none
  | p => rdBox m b p
def rdBoxes (m : Nat → Option Ent) (nb : Nat) (all : List (Nat × SP)) (tmps : List SV) : List BP → Nat → Option (List U × List (Asg × Bool) × List (Asg × Bool))
  | [], _ => some ([], [], [])
  | p :: l, id => match boxAt id tmps all with
    | some b => match rdBoxG m nb all tmps b p with
      | some (us, n, as) => match rdBoxes m nb all tmps l (id + 1) with | some (us', ba, ra) => some (us ++ us', (some (b, 0, n), true) :: ba, as ++ ra) | none => none
      | none => none
    | none => none
/-- What is to be frozen for a shape. -/
def frSlots (m : Nat → Option Ent) (tmps : List SV) : List (Nat × SP) → List Nat
  | [] => []
  | (t, .pv p) :: l => match nth undefS tmps t with
    | .pv v => frP m p v ++ frSlots m tmps l
    | _ => frSlots m tmps l
  | _ :: l => frSlots m tmps l
def frBoxes (m : Nat → Option Ent) (all : List (Nat × SP)) (tmps : List SV) : List BP → Nat → List Nat
  | [], _ => []
  | .cells ps :: l, id => match boxAt id tmps all with
    | some b => match m b with
      | some ⟨_, .cells cs⟩ => frCs ps cs ++ frBoxes m all tmps l (id + 1)
      | _ => frBoxes m all tmps l (id + 1)
    | none => frBoxes m all tmps l (id + 1)
  | _ :: l, id => frBoxes m all tmps l (id + 1)
def frSt (p : Pat) (s : St) : List Nat := frSlots s.mem s.tmps p.slots ++ frBoxes s.mem p.slots s.tmps p.boxes 0
/-- The names of what came in stand where the shape says. -/
def rtOk (all : List (Nat × SP)) (nb : Nat) (tmps : List SV) : List Nat → List Nat → Bool
  | [], [] => true
  | id :: l, b :: r => match spOk id nb all tmps b with | true => rtOk all nb tmps l r | false => false
  | _, _ => false
def rdStF (p : Pat) (s : St) : Option (List U) :=
  if len s.tmps = p.nt then (match rtOk p.slots (len p.boxes) s.tmps p.rt s.rt with
    | true => match rdSlots s.mem (len p.boxes) p.slots s.tmps p.slots, rdBoxes s.mem (len p.boxes) p.slots s.tmps p.boxes 0 with
      | some (us, as), some (us', ba, ra) => match okAsg (ba ++ (as ++ ra)) with | true => some (us ++ us') | false => none
      | _, _ => none
    | false => none) else none
def rdSt (p : Pat) (s : St) : Option (List U) := rdStF p { s with mem := updM s.mem (frz s.mem (frSt p s)) }
def mkCR (q : Nat) : List CR → List U → Option (List CV × List Ent × List U)
  | [], us => some ([], [], us)
  | .ref id :: ps, us => match mkCR q ps us with | some (cs, es, r) => some (.slf id :: cs, es, r) | none => none
  | .c p :: ps, us => match mkCs q [p] us with
    | some ([c], es, r) => match mkCR (q + len es) ps r with | some (cs, es', r') => some (c :: cs, es ++ es', r') | none => none
    | _ => none
def mkBox (q : Nat) : BP → List U → Option (Ent × List Ent × List U)
  | .row k, .r xs :: us => some (⟨true, .row k xs⟩, [], us)
  | .recs k, .rr xs :: us => some (⟨true, .recs k xs⟩, [], us)
  | .grow l, .d xs :: us => some (⟨true, .grow l xs⟩, [], us)
  | .mem l, .ds xs :: us => some (⟨true, .mem l xs⟩, [], us)
  | .map kk vk, .m xs :: us => some (⟨true, .map kk vk xs⟩, [], us)
  | .cells ps, us => match mkCs q ps us with
    | some (cs, es, r) => some (⟨true, .cells cs⟩, es, r)
    | none => none
  | .graph ps, us => match mkCR q ps us with
    | some (cs, es, r) => some (⟨true, .cells cs⟩, es, r)
    | none => none
  | _, _ => none
def mkBoxes (q : Nat) : List BP → List U → Option (List Ent × List Ent)
  | [], [] => some ([], [])
  | [], _ => none
  | p :: l, us => match mkBox q p us with
    | some (b, es, r) => match mkBoxes (q + len es) l r with | some (bs, es') => some (b :: bs, es ++ es') | none => none
    | none => none
def mkSlots (q : Nat) : List (Nat × SP) → List SV → List U → Option (List SV × List Ent × List U)
  | [], tm, us => some (tm, [], us)
  | (t, .pv p) :: l, tm, us => match mkP q p us with
    | some (v, es, r) => match mkSlots (q + len es) l (put tm t (.pv v)) r with | some (tm', es', r') => some (tm', es ++ es', r') | none => none
    | none => none
  | (t, .box id j) :: l, tm, us => mkSlots q l (put tm t (.pv (.one (.ptr id 0 0 j)))) us
  | (t, .arr id) :: l, tm, us => mkSlots q l (put tm t (.pv (.one (.ptr id 0 1 0)))) us
  | (t, .slf id) :: l, tm, us => mkSlots q l (put tm t (.pv (.one (.slf id)))) us
  | (t, .mapr id) :: l, tm, us => mkSlots q l (put tm t (.pv (.one (.mapr id)))) us
  | (t, .mem id j h) :: l, tm, us => mkSlots q l (put tm t (.pv (.one (.mptr id j h)))) us
def memOf : List Ent → Nat → Option Ent
  | [], _ => none
  | e :: l, q => match q with | 0 => some e | q + 1 => memOf l q
def mkSt (p : Pat) (us : List U) : Option St :=
  match mkSlots (len p.boxes) p.slots (List.replicate p.nt anyS) us with
  | some (tm, es, r) => match mkBoxes (len p.boxes + len es) p.boxes r with
    | some (bs, es') => some ⟨tm, memOf (bs ++ (es ++ es')), len bs + len es + len es', p.rt⟩
    | none => none
  | none => none
def exEq : Ex → Ex → Bool
  | .normal, .normal => true
  | .ret, .ret => true
  | .exit i, .exit j => i == j
  | .pan t _, .pan u _ => t == u
  | _, _ => false
/-- A way out with the number that it bears, as data; and back. -/
def exIn : Ex → List U → List U
  | .pan _ n, us => .i n :: us
  | _, us => us
def exOut : Ex → List U → Option (Ex × List U)
  | .pan t _, .i n :: us => some (.pan t n, us)
  | .pan _ _, _ => none
  | e, us => some (e, us)
/-- What is known of a loop: with one way out, or with two. -/
inductive LS where
  | one (pre : Pat) (β : Type) (ex : Ex) (post : Pat) (L : List U → Option β) (enc : β → List U)
  | two (pre : Pat) (β γ : Type) (ex : Ex) (post : Pat) (ex' : Ex) (post' : Pat) (L : List U → Option (β ⊕ γ)) (enc : β → List U) (enc' : γ → List U)
def key : Code → Option Nat
  | .region id _ _ => some id
  | .seq a b => match key a with | some k => some k | none => key b
  | .cond _ a b => match key a with | some k => some k | none => key b
  | .block _ c => key c
  | .loop c => key c
  | .scope c => key c
  | _ => none
def runLoop (sp : Option LS) (s : St) : T (Ex × St) :=
  match sp with
  | some (.one pre β ex post L enc) => match rdSt pre s with
    | some us => .bnd (L us) fun r => match exOut ex (enc r) with
      | some (e, vs) => match mkSt post vs with | some s' => .ret (e, s') | none => .fail
      | none => .fail
    | none => .fail
  | some (.two pre β γ ex post ex' post' L enc enc') => match rdSt pre s with
    | some us => .cas (L us) (fun r => match exOut ex (enc r) with
        | some (e, vs) => match mkSt post vs with | some s' => .ret (e, s') | none => .fail
        | none => .fail) (fun r => match exOut ex' (enc' r) with
        | some (e, vs) => match mkSt post' vs with | some s' => .ret (e, s') | none => .fail
        | none => .fail)
    | none => .fail
  | none => .fail
/-- A panic of the text's own, with a number. -/
def panOp (o : Oper) (s : St) : Option (Nat × Int) :=
  match o.op, o.guard with
  | .panic x, none => match s.ev x with | .pv (.one (.val (.iface t (.int .i64 n)))) => some (t, n) | _ => none
  | _, _ => none
/-- A call of a function that may panic: what is known of it stands apart. -/
def panCall (env : FuncId → Option Spec) (o : Oper) (s : St) : Option (Spec × List SV) :=
  match o.op, o.guard with
  | .call { callee := .value x, args, .. }, none => match s.ev x with
    | .pv (.one (.val (.func (.func f) ⟨[]⟩ ⟨[]⟩))) => if f < 1000000 then (match env (f + 2000000) with | some sp => some (sp, args.toList.map s.ev) | none => none) else none
    | _ => none
  | _, _ => none
/-- It answers: did it return; its panic's type and number; what it returned. -/
def exCallP (sp : Spec) (args : List SV) (μ : Nat → Option Ent) (nid : Nat) : T (Out ⊕ (Nat × Int × List (Nat × Option Ent))) :=
  match pvs args with
  | none => .fail
  | some ps => match rdPs (updM μ (frz μ (frPs μ sp.args ps))) sp.args ps with
    | none => .fail
    | some (us, as) => match okAsg as && rootsOk sp.args ps with
      | false => .fail
      | true => .bnd (sp.G us) fun r => match sp.enc r with
        | .b ok :: .i t :: .i n :: vs0 => .ite ok (match mkPs nid (sp.res ++ outsOf sp.args) vs0 with
          | some (vs, es, []) => if len es ≤ 64 then (match rootUpd nid as es (rootIds 0 sp.args) (rootIds (entsPs sp.res) (outsOf sp.args)) with
            | some ru => .ret (.inl ⟨resSV (takeL (len sp.res) vs), frz μ (frPs μ sp.args ps) ++ (gone as ++ (entsUpd nid es ++ (ru ++ shIf (anyRo es || roPs (sp.res ++ outsOf sp.args)) (shared as (updM μ (frz μ (frPs μ sp.args ps)))))))⟩)
            | none => .fail) else .fail
          | _ => .fail) (.ret (.inr (t.toNat, n, frz μ (frPs μ sp.args ps) ++ gone as)))
        | _ => .fail
def runLX (P : Program) (env : FuncId → Option Spec) (ops : List Oper) (nx : Nat) : List Oper → Nat → St → T (Ex × St)
  | [], i, s => .ret (.normal, { s with nx := nx + 64 * i })
  | o :: l, i, s => match panOp o s with
    | some (t, n) => .ret (.pan t n, { s with nx := nx + 64 * i })
    | none => match panCall env o s with
      | some (sp, args) => (exCallP sp args s.mem (nx + 64 * i)).bind fun x => match x with
        | .inl out => runLX P env ops nx l (i + 1) (s.app o.dst out)
        | .inr (t, n, upd) => .ret (.pan t n, { s with mem := updM s.mem upd, nx := nx + 64 * i })
      | none => (step1 P env ops (nx + 64 * i) o s).bind (runLX P env ops nx l (i + 1))
def runC (P : Program) (env : FuncId → Option Spec) (lenv : Nat → Option LS) : Code → St → T (Ex × St)
  | .skip, s => .ret (.normal, s)
  | .ret, s => .ret (.ret, s)
  | .exit id, s => .ret (.exit id, s)
  | .seq a b, s => (runC P env lenv a s).bind fun (e, s') => match e with | .normal => runC P env lenv b s' | e => .ret (e, s')
  | .cond c a b, s => match c with
    | .tmp t => match nth undefS s.tmps t with
      | .pv (.one (.val (.bool x))) => .ite x (runC P env lenv a (s.lit t true)) (runC P env lenv b (s.lit t false))
      | _ => .fail
    | .const (.bool x) => .ite x (runC P env lenv a s) (runC P env lenv b s)
    | _ => .fail
  | .block id c, s => (runC P env lenv c s).bind fun (e, s') => match e with | .exit i => (match i == id with | true => .ret (.normal, s') | false => .ret (.exit i, s')) | e => .ret (e, s')
  | .region _ ops d, s => match d with
    | false => runLX P env ops.toList s.nx ops.toList 0 s
    | true => (runDraw P env ops.toList s).bind fun s' => .ret (.normal, s')
  | .loop c, s => match key c with | some k => runLoop (lenv k) s | none => .fail
  | _, _ => .fail
/-- One round of a loop, and what it means for the loop's function. -/
def round1 (P : Program) (env : FuncId → Option Spec) (lenv : Nat → Option LS) (c : Code) (pre : Pat) {β : Type} (ex : Ex) (post : Pat) (dec : List U → Option β) (L : List U → Option β) (us : List U) : T β :=
  match mkSt pre us with
  | some s => (runC P env lenv c s).bind fun (e, s') => match e with
    | .normal => match rdSt pre s' with | some us' => .opn (L us') | none => .fail
    | e => match exEq e ex with
      | true => match rdSt post s' with | some us' => T.opt (dec (exIn e us')) .ret | none => .fail
      | false => .fail
  | none => .fail
def round2 (P : Program) (env : FuncId → Option Spec) (lenv : Nat → Option LS) (c : Code) (pre : Pat) {β γ : Type} (ex : Ex) (post : Pat) (ex' : Ex) (post' : Pat) (dec : List U → Option β) (dec' : List U → Option γ) (L : List U → Option (β ⊕ γ)) (us : List U) : T (β ⊕ γ) :=
  match mkSt pre us with
  | some s => (runC P env lenv c s).bind fun (e, s') => match e with
    | .normal => match rdSt pre s' with | some us' => .opn (L us') | none => .fail
    | e => match exEq e ex with
      | true => match rdSt post s' with | some us' => T.opt (dec (exIn e us')) fun r => .ret (.inl r) | none => .fail
      | false => match exEq e ex' with
        | true => match rdSt post' s' with | some us' => T.opt (dec' (exIn e us')) fun r => .ret (.inr r) | none => .fail
        | false => .fail
  | none => .fail
/-- What a function answers, from its slots. -/
def resPV (P : Program) (s : St) : ResultVar → T PV
  | .tmp t => match nth undefS s.tmps t with | .pv p => .ret p | _ => .fail
  | .cell a t => match nth undefS s.tmps a, sizeT P t with
    | .pv (.one (.ptr b i _ j)), some n => match s.mem b with
      | some e => match wholeRow e.blk (aggT P t) i j with
        | some (k, xs) => T.req (decide (n ≤ xs.length)) (.ret (.agg (rowCells k xs 0 n)))
        | none => match e.blk.get i j n with | some l => (match shapePV (aggT P t) l with | some p => .ret p | none => .fail) | none => .fail
      | none => .fail
    | _, _ => .fail
def resPVs (P : Program) (s : St) : List ResultVar → T (List PV)
  | [] => .ret []
  | r :: l => (resPV P s r).bind fun p => (resPVs P s l).bind fun ps => .ret (p :: ps)
/-- What came in, as it is told at the end. -/
def outPVs : List PP → List Nat → List PV
  | .ptr _ :: l, b :: r => .one (.ptr b 0 0 0) :: outPVs l r
  | .mptr h :: l, b :: r => .one (.mptr b 0 h) :: outPVs l r
  | .one (.map ..) :: l, b :: r => .one (.mapr b) :: outPVs l r
  | _ :: l, b :: r => .one (.slf b) :: outPVs l r
  | _, _ => []
/-- Slices that came in are as long as they were. -/
def lensT (es : List Ent) (m : Nat → Option Ent) : List Nat → List Nat → Option (Option Bool)
  | [], [] => some none
  | b :: bs, c :: cs => match nth? es b, m c, lensT es m bs cs with
    | some ⟨_, .row _ xs⟩, some ⟨_, .row _ ys⟩, some r => some (some (match r with | some q => decide (ys.length = xs.length) && q | none => decide (ys.length = xs.length)))
    | some ⟨_, .recs ks xs⟩, some ⟨_, .recs ls ys⟩, some r => if len ks = len ls then some (some (match r with | some q => decide (ys.length = xs.length) && q | none => decide (ys.length = xs.length))) else none
    | some ⟨_, .grow ks xs⟩, some ⟨_, .grow ls ys⟩, some r => if len ks = len ls then some (some (match r with | some q => decide (ys.length = xs.length) && q | none => decide (ys.length = xs.length))) else none
    | some ⟨_, .cells _⟩, some ⟨_, .cells _⟩, some r => some r
    | some ⟨_, .mem l _⟩, some ⟨_, .mem l' _⟩, some r => match shsEq l l' with | true => some r | false => none
    | some ⟨_, .map ..⟩, some ⟨_, .map ..⟩, some r => some r
    | _, _, _ => none
  | _, _ => none
def endFs (es : List Ent) (args res : List PP) {β : Type} (dec : List U → Option β) (s : St) (vs : List PV) : T β :=
  if len vs = len res then (match lensT es s.mem (rootIds 0 args) s.rt with
  | none => .fail
  | some b => match rdPs (updM s.mem (frz s.mem (frPs s.mem (res ++ outsOf args) (vs ++ outPVs (outsOf args) s.rt)))) (res ++ outsOf args) (vs ++ outPVs (outsOf args) s.rt) with
    | some (us', as) => match okAsg as with
      | true => match b with | none => T.opt (dec us') .ret | some c => T.req c (T.opt (dec us') .ret)
      | false => .fail
    | none => .fail) else .fail
def runF (P : Program) (env : FuncId → Option Spec) (lenv : Nat → Option LS) (fn : Func) (args res : List PP) {β : Type} (dec : List U → Option β) (us : List U) : T β :=
  match mkPs 0 args us, fn.body with
  | some (ps, es, []), some c => (runC P env lenv c ⟨ps.map .pv ++ List.replicate (fn.ntmps - len ps) undefS, memOf es, len es, rootIds 0 args⟩).bind fun (e, s) => match e with
      | .exit _ => .fail
      | .pan _ _ => .fail
      | _ => (resPVs P s fn.results.toList).bind fun vs => endFs es args res dec s vs
  | _, _ => .fail
/-- A function that may panic: what it returns, or the panic's type and number. -/
def runFP (P : Program) (env : FuncId → Option Spec) (lenv : Nat → Option LS) (fn : Func) (args res : List PP) {β : Type} (t0 : Nat) (dec : Bool → Int → List U → Option β) (junk : List U) (us : List U) : T β :=
  match mkPs 0 args us, fn.body with
  | some (ps, es, []), some c => (runC P env lenv c ⟨ps.map .pv ++ List.replicate (fn.ntmps - len ps) undefS, memOf es, len es, rootIds 0 args⟩).bind fun (e, s) => match e with
      | .exit _ => .fail
      | .pan t n => match t == t0 with | true => T.opt (dec false n junk) .ret | false => .fail
      | _ => (resPVs P s fn.results.toList).bind fun vs => endFs es args res (dec true 0) s vs
  | _, _ => .fail
end Go.Proofs.Ytmmaechogibodaa.Vm

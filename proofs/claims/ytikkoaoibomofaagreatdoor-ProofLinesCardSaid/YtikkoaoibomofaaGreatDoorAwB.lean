/-
  The abstract walk's operations: what an operation of the model comes to on abstract values (aOp), code (awp) as a Lean function of the code, the contract of a function (Triple). Definitions alone; no condition.
-/
import Derived.Test.YtikkoaoibomofaaGreatDoorAwA
set_option linter.unusedVariables false
namespace Go.Proofs.YtikkoaoibomofaaGreatDoor.Aw
open Go Go.RowKit

/-! ### Types -/
inductive TK where
  | int (k : IntKind) | bool | str | slice (e : TypeId) | ptr (e : TypeId) | strct (fs : List (Nat × TypeId)) | array (n : Nat) (e : TypeId) | iface (plain : Bool) | fn | map (k e : TypeId) | other
structure TI where
  size : Nat
  bytes : Nat
  zero : Value
  kind : TK
def TI.none : TI := ⟨0, 0, .nilIface, .other⟩
def kindOf : TypeDesc → TK
  | .int k => .int k
  | .bool => .bool
  | .string => .str
  | .slice e => .slice e
  | .pointer e => .ptr e
  | .struct fa => .strct (fa.toList.map fun f => (f.offset, f.type))
  | .array n e => .array n e
  | .interface ms => .iface ms.isEmpty
  | .func .. => .fn
  | .map k e => .map k e
  | _ => .other
def TI.agg (ti : TI) : Bool := match ti.kind with | .strct _ | .array .. => true | _ => false
def TIok (P : Program) (t : TypeId) (ti : TI) : Prop :=
  (P.info? t).map (fun i => (i.size, i.bytes, i.zero)) = some (ti.size, ti.bytes, some ti.zero) ∧ (P.underlying t).map kindOf = some ti.kind ∧
  ti.zero.cells.size = ti.size ∧ ti.zero.cells.toList.all Value.oneCell' = true

structure Cx where
  T : TypeId → TI
  G : Nat → Option (List AV)
  E : TypeId → Bool
/-- A struct whose values are compared field by field, and by nothing else. -/
def EqOkB (P : Program) (t : TypeId) : Bool :=
  !P.stoodInHeld t && !P.eqGuardType P.depth t && (match P.underlying t with
    | some (.struct fa) => fa.toList.all fun f => f.name != "_"
    | _ => false)
def TyOk (P : Program) (C : Cx) : Prop := (∀ t, TIok P t (C.T t) ∨ C.T t = TI.none) ∧ ∀ t, C.E t = true → EqOkB P t = true
def GlobOk (C : Cx) (w : World) (S : St) : Prop := ∀ g xs, C.G g = some xs → S g = none ∧ g < w.heap.size ∧ RelAt w (rdOf S) g 0 xs ∧ ∃ e, w.shape? g = some (e, xs.length)
def Good (C : Cx) (w : World) (S : St) : Prop := Inv w S ∧ GlobOk C w S

/-! ### Values -/
def ofV0 : Value → AV
  | .int k n => .int k n
  | .bool b => .bool b
  | .string s => .str s
  | .pointer none => .nilp
  | .slice none 0 0 => .nils
  | .nilIface => .nili
  | .nilFunc => .nilf
  | .map none => .nilm
  | v => .raw v
def ofV : Value → AV
  | .agg cs => if cs.toList.all Value.oneCell' then .ag (cs.toList.map ofV0) else .raw (.agg cs)
  | v => ofV0 v
def scal : AV → Bool
  | .ag _ | .tu _ | .raw _ | .top => false
  | _ => true
def cellsOf : AV → List AV
  | .ag xs => xs
  | x => [x]
def okCells : AV → Bool
  | .ag _ => true
  | x => scal x
def setRange (cells : List AV) (off : Nat) : List AV → List AV
  | [] => cells
  | x :: xs => setRange (cells.set off x) (off + 1) xs
def aFill (place : Nat → Option (Nat × Nat)) (cells : List AV) : List (Nat × AV) → Option (List AV)
  | [] => some cells
  | (i, x) :: r =>
    match place i with
    | none => none
    | some (off, size) => bif okCells x && (Nat.beq (cellsOf x).length size && Nat.ble (off + size) cells.length) then aFill place (setRange cells off (cellsOf x)) r else none
def byteAt (s : ByteArray) (i : Nat) : Int := ((s.data.toList.getD i 0).toNat : Int)
def mulL (k : Nat) (xs : List AV) : Nat → List AV
  | 0 => []
  | n + 1 => xs ++ mulL k xs n
def rowsOf (k : Nat) (cells : List AV) : Nat → List (List AV)
  | 0 => []
  | n + 1 => cells.take k :: rowsOf k (cells.drop k) n

abbrev Env := List (Nat × AV)
def look (t : Nat) : Env → AV
  | [] => .top
  | (s, x) :: r => bif Nat.beq s t then x else look t r
def put (d : Option Tmp) (x : AV) (env : Env) : Env :=
  match d with
  | some d => (d, x) :: env
  | none => env
def putK (d : Option Tmp) (x : AV) (env : Env) (K : Env → Prop) : Prop :=
  match d with
  | some d => K ((d, x) :: env)
  | none => K env
def ev (C : Cx) (env : Env) : Operand → AV
  | .tmp t => look t env
  | .const v => ofV v
  | .global g => match C.G g with | some xs => .imm xs | none => .raw (.pointer (some ⟨g, 0, none⟩))
  | .func f => .fn (.func f) [] []

/-- A value is brought to its form before one goes on. -/
def force (x : AV) (K : AV → Prop) : Prop :=
  match x with
  | .int k n => K (.int k n)
  | .bool b => K (.bool b)
  | .str s => K (.str s)
  | .nilp => K .nilp
  | .ref b o => K (.ref b o)
  | .imm xs => K (.imm xs)
  | .nils => K .nils
  | .sl sh k es => K (.sl sh k es)
  | .arr b o n c => K (.arr b o n c)
  | .ag xs => K (.ag xs)
  | .tu xs => K (.tu xs)
  | .nilf => K .nilf
  | .fn f a b => K (.fn f a b)
  | .nili => K .nili
  | .ifc t y => K (.ifc t y)
  | .nilm => K .nilm
  | .mp r => K (.mp r)
  | .raw v => K (.raw v)
  | .top => K .top
def forceL : List AV → (List AV → Prop) → Prop
  | [], K => K []
  | x :: xs, K => force x fun y => forceL xs fun ys => K (y :: ys)
def forceR : List (List AV) → (List (List AV) → Prop) → Prop
  | [], K => K []
  | r :: rs, K => forceL r fun r' => forceR rs fun rs' => K (r' :: rs')
def split (b : Bool) (Kt Kf : Prop) : Prop := match b with | true => Kt | false => Kf

inductive Out where
  | ret (x : AV)
  | pan (x : AV)
def OutRel (w : World) (S : St) : Out → Ending → Prop
  | .ret x, .returned v => Rel w (rdOf S) x v
  | .pan x, .panicked chain => ∃ v, chain = [{ v, recovered := false }] ∧ Rel w (rdOf S) x v
  | _, _ => False

/-- THE CONTRACT OF A FUNCTION in these words. -/
structure Triple (P : Program) (C : Cx) (f : FuncId) (args : List AV) (S : St) (Q : Out → St → Prop) : Prop where
  mk ::
  enter : ∀ (vs : Array Value) (w : World), (callFunc f vs).run P w = .ok (.enter f vs) w
  out : ∀ (w : World) (vs : Array Value), Good C w S → RelL w (rdOf S) args vs.toList →
    Calls P f vs w fun e w' => ∃ o S', OutRel w' S' o e ∧ Good C w' S' ∧ Adv w S w' S' ∧ Q o S'

/-! ### Operations -/
section
variable (P : Program) (C : Cx)
/-- A condition that the text itself decides. -/
def when (b : Bool) (K : Prop) : Prop := match b with | true => K | false => False
def known (t : TypeId) : Bool := match (C.T t).kind with | .other => false | _ => true

def aIntOp (op : BinOp) (k : IntKind) (a b : Int) (K : AV → Prop) : Prop :=
  match op with
  | .add => K (.int k (k.wrap (a + b)))
  | .sub => K (.int k (k.wrap (a - b)))
  | .mul => K (.int k (k.wrap (a * b)))
  | .quo => b ≠ 0 ∧ K (.int k (k.wrap (a.tdiv b)))
  | .rem => b ≠ 0 ∧ K (.int k (a.tmod b))
  | .eql => K (.bool (a == b))
  | .neq => K (.bool (a != b))
  | .lss => K (.bool (decide (a < b)))
  | .leq => K (.bool (decide (a ≤ b)))
  | .gtr => K (.bool (decide (a > b)))
  | .geq => K (.bool (decide (a ≥ b)))
  | _ => False
def aStrOp (op : BinOp) (a b : ByteArray) (K : AV → Prop) : Prop :=
  match op with
  | .add => a.size + b.size ≤ 9223372036854775807 ∧ K (.str (a ++ b))
  | .eql => K (.bool (decide (a = b)))
  | .neq => K (.bool (!decide (a = b)))
  | _ => False
/-- '==' of two values: nil against something, bools, aggregates cell by cell. -/
def flatEq (k : TK) (x y : AV) : Option Bool :=
  match k, x, y with
  | .int k, .int k1 a, .int k2 b => (match decide (k1 = k2) with | true => some (a == b) | false => none)
  | .str, .str a, .str b => some (decide (a = b))
  | .bool, .bool a, .bool b => some (a == b)
  | _, _, _ => none
def aEqF (i : Nat) : List (Nat × TypeId) → List AV → List AV → Option Bool
  | [], [], [] => some true
  | (off, ft) :: fs, x :: xs, y :: ys => (match Nat.beq off i, flatEq (C.T ft).kind x y with
      | true, some a => (match aEqF (i + 1) fs xs ys with | some b => some (a && b) | none => none)
      | _, _ => none)
  | _, _, _ => none
def aEq (xt : TypeId) (a b : AV) : Option Bool :=
  match (C.T xt).kind, a, b with
  | .strct fs, .ag xs, .ag ys => (match C.E xt with | true => aEqF C 0 fs xs ys | false => none)
  | .bool, .bool a, .bool b => some (a == b)
  | .ptr _, .nilp, .nilp => some true
  | .ptr _, .nilp, .ref .. => some false
  | .ptr _, .ref .., .nilp => some false
  | .ptr _, .nilp, .imm .. => some false
  | .ptr _, .imm .., .nilp => some false
  | .slice _, .nils, .nils => some true
  | .slice _, .arr .., .nils => some false
  | .slice _, .sl .nn .., .nils => some false
  | .slice _, .sl .full .., .nils => some false
  | .slice _, .sl (.own _) .., .nils => some false
  | .fn, .nilf, .nilf => some true
  | .fn, .fn .., .nilf => some false
  | .iface _, .nili, .ifc .. => some false
  | .iface _, .ifc .., .nili => some false
  | _, _, _ => none
def isConst : Operand → Bool | .const _ => true | _ => false
def aBin (op : BinOp) (xt : TypeId) (x y : Operand) (a b : AV) (K : AV → Prop) : Prop :=
  match a, b with
  | .int k m, .int k' n => (match op with
      | .shl => 0 ≤ n ∧ K (.int k (k.wrap (m * 2 ^ (min n.toNat k.bits))))
      | .shr => 0 ≤ n ∧ K (.int k (m.fdiv (2 ^ (min n.toNat k.bits))))
      | _ => when (decide (k = k')) (aIntOp op k m n K))
  | .str s, .str t => aStrOp op s t K
  | .nili, .nili => (match (C.T xt).kind, op with
      | .iface _, .eql => when (isConst x || isConst y) (K (.bool true))
      | .iface _, .neq => when (isConst x || isConst y) (K (.bool false))
      | _, _ => False)
  | a, b => (match op with
      | .eql => (match aEq C xt a b with | some r => K (.bool r) | none => False)
      | .neq => (match aEq C xt a b with | some r => K (.bool (!r)) | none => False)
      | _ => False)
def aUn (op : UnOp) (x : AV) (K : AV → Prop) : Prop :=
  match op, x with
  | .neg, .int k n => K (.int k (k.wrap (0 - n)))
  | .not, .bool b => K (.bool (!b))
  | _, _ => False
def rowsB (s : ByteArray) : List (List AV) := s.data.toList.map fun b => [.int .u8 (b.toNat : Int)]
def isU8 (t : TypeId) : Bool := match (C.T t).kind with | .int .u8 => Nat.beq 1 (C.T t).size | _ => false
def aConv (src dst : TypeId) (x : AV) (S : St) (K : AV → Prop) : Prop :=
  match (C.T src).kind, (C.T dst).kind, x with
  | .int _, .int k, .int _ n => K (.int k (k.wrap n))
  | .str, .str, .str s => K (.str s)
  | .str, .slice te, .str s => when (isU8 C te) (s.size ≤ 140737488355328 ∧ K (.sl .nn 1 (rowsB s)))
  | .slice te, .str, .sl _ k es => when (isU8 C te && Nat.beq k 1) (∃ s, es = rowsB s ∧ K (.str s))
  | .slice te, .str, .nils => when (isU8 C te) (K (.str ByteArray.empty))
  | _, _, _ => False
def aPart (t : TypeId) (xs : List AV) (off : Nat) (K : AV → Prop) : Prop :=
  match (C.T t).agg with
  | true => when (Nat.ble (off + (C.T t).size) xs.length) (forceL ((xs.drop off).take (C.T t).size) fun cs => K (.ag cs))
  | false => (match xs.drop off with | x :: _ => force x K | [] => False)
def aLoad (t : TypeId) (p : AV) (S : St) (K : AV → Prop) : Prop :=
  match p with
  | .imm xs => when (known C t) (aPart C t xs 0 K)
  | .ref b off => when (known C t) (∃ e cells, S b = some (.obj e cells) ∧ aPart C t cells off K)
  | _ => False
def aStore (t : TypeId) (p x : AV) (S : St) (K : St → Prop) : Prop :=
  match p with
  | .ref b off => when (known C t && (okCells x && Nat.beq (cellsOf x).length (C.T t).size)) (∃ e cells, S b = some (.obj e cells) ∧ when (Nat.ble (off + (C.T t).size) cells.length) (forceL (setRange cells off (cellsOf x)) fun cs => K (S.upd b (.obj e cs))))
  | _ => False
def fieldOf (t : TypeId) (f : Nat) : Option (Nat × TypeId) :=
  match (C.T t).kind with
  | .strct fs => fs[f]?
  | _ => none
def aFieldAddr (t : TypeId) (p : AV) (f : Nat) (K : AV → Prop) : Prop :=
  match fieldOf C t f with
  | some (off, ft) => when (known C ft && Nat.blt 0 (C.T ft).size) (match p with
    | .ref b o => K (.ref b (o + off))
    | .imm xs => K (.imm (xs.drop off))
    | _ => False)
  | none => False
def aField (t : TypeId) (x : AV) (f : Nat) (K : AV → Prop) : Prop :=
  match fieldOf C t f, x with
  | some (off, ft), .ag xs => when (known C ft) (aPart C ft xs off K)
  | _, _ => False
def aIndexAddr (t : TypeId) (x i : AV) (K : AV → Prop) : Prop :=
  match (C.T t).kind, x, i with
  | .slice e, .sl sh k es, .int _ n => when (known C e && Nat.beq (C.T e).size k) (∃ r, (0 ≤ n ∧ es[n.toNat]? = some r) ∧ K (.imm r))
  | .slice e, .arr b off m cap, .int _ n => when (known C e) ((0 ≤ n ∧ n < m) ∧ K (.ref b (off + n.toNat * (C.T e).size)))
  | _, _, _ => False
def aIndex (t : TypeId) (x i : AV) (K : AV → Prop) : Prop :=
  match (C.T t).kind, x, i with
  | .str, .str s, .int _ n => (0 ≤ n ∧ n < s.size) ∧ K (.int .u8 (byteAt s n.toNat))
  | _, _, _ => False
def optN (d : Nat) : Option AV → Option Int
  | none => some d
  | some (.int _ n) => some n
  | some _ => none
def aSlice (t : TypeId) (x : AV) (lo hi mx : Option AV) (K : AV → Prop) : Prop :=
  match (C.T t).kind, x, mx with
  | .str, .str s, none => (match optN 0 lo, optN s.size hi with
      | some l, some h => (0 ≤ l ∧ l ≤ h ∧ h ≤ s.size) ∧ K (.str (s.extract l.toNat h.toNat))
      | _, _ => False)
  | .slice e, .sl sh k es, none => when (known C e && Nat.beq (C.T e).size k) (match optN 0 lo, optN es.length hi with
      | some l, some h => (0 ≤ l ∧ l ≤ h ∧ h ≤ es.length) ∧ K (.sl sh.less k ((es.take h.toNat).drop l.toNat))
      | _, _ => False)
  | .slice e, .sl sh k es, some m => when (known C e && Nat.beq (C.T e).size k) (match lo, hi, m with
      | none, some (.int _ 0), .int _ 0 => K (match sh with | .any | .acc _ => .sl .any k [] | _ => .sl .full k [])
      | _, _, _ => False)
  | .slice e, .arr b off n cap, none => when (known C e) (match optN 0 lo, optN n hi with
      | some l, some h => (0 ≤ l ∧ l ≤ h ∧ h ≤ cap) ∧ K (.arr b (bif Nat.beq cap l.toNat then off else off + l.toNat * (C.T e).size) (h.toNat - l.toNat) (cap - l.toNat))
      | _, _ => False)
  | .slice e, .nils, none => when (known C e) (match optN 0 lo, optN 0 hi with
      | some l, some h => (l = 0 ∧ h = 0) ∧ K .nils
      | _, _ => False)
  | .slice e, .nils, some m => when (known C e) (match lo, hi, m with
      | none, some (.int _ 0), .int _ 0 => K .nils
      | _, _, _ => False)
  | _, _, _ => False
def aLen (t : TypeId) (x : AV) (S : St) (K : AV → Prop) : Prop :=
  match (C.T t).kind, x with
  | .str, .str s => K (.int .i64 (s.size : Int))
  | .slice _, .sl _ _ es => ((es.length : Int) ≤ 9223372036854775807 → K (.int .i64 (es.length : Int)))
  | .slice _, .nils => K (.int .i64 0)
  | .slice _, .arr _ _ n _ => K (.int .i64 (n : Int))
  | .map _ _, .nilm => K (.int .i64 0)
  | .map _ _, .mp r => ∃ es, S r = some (.mapo es) ∧ K (.int .i64 (es.length : Int))
  | _, _ => False
/-- A list is grown by what may be nothing. -/
def AccStep (S : St) (b : Nat) (e : TypeId) (k n m : Nat) (b' : Nat) (S' : St) : Prop :=
  (m = 0 ∧ b' = b ∧ S' = S) ∨ (0 < m ∧ ∃ S₁, (n = 0 → S₁ = S) ∧ (0 < n → S₁ = S.del b) ∧ S₁ b' = none ∧ S' = S₁.upd b' (.tip e k (n + m)))
def aGrow (e : TypeId) (s : AV) (new : List (List AV)) (S : St) (K : AV → St → Prop) : Prop :=
  when (known C e && Nat.blt 0 (C.T e).bytes) (match s with
    | .nils => new.length * (C.T e).bytes ≤ 140737488355328 ∧ ∀ b S', AccStep S b e (C.T e).size 0 new.length b S' → K (.sl (.acc b) (C.T e).size new) S'
    | .sl (.own b) k es => when (Nat.beq (C.T e).size k) ((S b = some (.tip e (C.T e).size es.length) ∧ (es.length + new.length) * (C.T e).bytes ≤ 140737488355328) ∧
        ∀ b', (S.del b) b' = none → K (.sl (.own b') (C.T e).size (es ++ new)) ((S.del b).upd b' (.tip e (C.T e).size (es.length + new.length))))
    | .sl (.acc b) k es => when (Nat.beq (C.T e).size k) (((0 < es.length → S b = some (.tip e (C.T e).size es.length)) ∧ (es.length + new.length) * (C.T e).bytes ≤ 140737488355328) ∧
        ∀ b' S', AccStep S b e (C.T e).size es.length new.length b' S' → K (.sl (.acc b') (C.T e).size (es ++ new)) S')
    | _ => False)
/-- What else an append may take. -/
def aSrc (e tx : TypeId) (x : AV) (S : St) (K : List (List AV) → Prop) : Prop :=
  match (C.T tx).kind, x with
  | .str, .str s => when (Nat.beq 1 (C.T e).size) (K (rowsB s))
  | .slice e', .arr b off n cap => when (Nat.beq e' e) (∃ te cells, S b = some (.obj te cells) ∧ off + n * (C.T e').size ≤ cells.length ∧ K (rowsOf (C.T e').size ((cells.drop off).take (n * (C.T e').size)) n))
  | _, _ => False
def other : AV → Bool | .str _ | .arr .. => true | _ => false
/-- append(s, x): what is appended, as rows. -/
def aAppend (t : TypeId) (s x : AV) (S : St) (K : AV → St → Prop) : Prop :=
  match (C.T t).kind with
  | .slice e => when (known C e && (Nat.blt 0 (C.T e).size && Nat.blt 0 (C.T e).bytes)) (match x with
    | .nils => (match s with
      | .nils => K .nils S
      | .sl sh k es => K (.sl sh k es) S
      | _ => False)
    | .sl _ k' new => when (Nat.beq (C.T e).size k') (match s with
      | .nils => new.length * (C.T e).bytes ≤ 140737488355328 ∧ (match new with
        | [] => K .nils S
        | r :: rs => ∀ b, S b = none → K (.sl (.own b) k' (r :: rs)) (S.upd b (.tip e k' (r :: rs).length)))
      | .sl (.own b) k es => when (Nat.beq k k') ((S b = some (.tip e k es.length) ∧ (es.length + new.length) * (C.T e).bytes ≤ 140737488355328) ∧
          ∀ b', (S.del b) b' = none → K (.sl (.own b') k (es ++ new)) ((S.del b).upd b' (.tip e k (es.length + new.length))))
      | .sl (.acc b) k es => when (Nat.beq k k') (((es ≠ [] → S b = some (.tip e k es.length)) ∧ (es.length + new.length) * (C.T e).bytes ≤ 140737488355328) ∧ (match new with
        | [] => K (.sl (.acc b) k es) S
        | r :: rs => ∀ S₁, (es = [] → S₁ = S) → (es ≠ [] → S₁ = S.del b) → ∀ b', S₁ b' = none → K (.sl (.acc b') k (es ++ (r :: rs))) (S₁.upd b' (.tip e k (es.length + (r :: rs).length)))))
      | .sl .full k es => when (Nat.beq k k') ((es.length + new.length) * (C.T e).bytes ≤ 140737488355328 ∧ (match new with
        | [] => K (.sl .full k es) S
        | r :: rs => ∀ b, S b = none → K (.sl (.own b) k (es ++ (r :: rs))) (S.upd b (.tip e k (es.length + (r :: rs).length)))))
      | _ => False)
    | _ => False)
  | _ => False
def aMM (mx : Bool) : AV → List AV → (AV → Prop) → Prop
  | x, [], K => force x K
  | .int k a, .int _ b :: r, K => aMM mx (.int k (match mx with | true => if b > a then b else a | false => if b < a then b else a)) r K
  | _, _, _ => False
def aBuiltin (b : Builtin) (ts : List TypeId) (xs : List AV) (S : St) (K : AV → St → Prop) : Prop :=
  match b, ts, xs with
  | .len, [t], [x] => aLen C t x S fun y => K y S
  | .append, [t, t'], [s, x] => (match other x with
      | true => (match (C.T t).kind with | .slice e => aSrc C e t' x S fun new => aGrow C e s new S K | _ => False)
      | false => when (Nat.beq t t') (aAppend C t s x S K))
  | .cap, [t], [x] => (match (C.T t).kind, x with | .slice _, .arr _ _ _ c => K (.int .i64 (c : Int)) S | _, _ => False)
  | .max, _, x :: r => aMM true x r fun y => K y S
  | .min, _, x :: r => aMM false x r fun y => K y S
  | _, _, _ => False
def aCall (f : AV) (args : List AV) (S : St) (K : AV → St → Prop) (Qp : AV → St → Prop) : Prop :=
  match f with
  | .fn (.func g) first cap => forceL (first ++ args ++ cap) fun l => Triple P C g l S fun o S' => match o with | .ret x => K x S' | .pan x => Qp x S'
  | _ => False
def keyEq : AV → AV → Option Bool
  | .int k a, .int k' b => (match decide (k = k') with | true => some (a == b) | false => none)
  | .str a, .str b => some (decide (a = b))
  | _, _ => none
/-- A map's entry is sought. -/
def aFindK (k : AV) : List (AV × AV) → (AV → Prop) → Prop → Prop
  | [], K, Kn => Kn
  | (k0, v0) :: r, K, Kn => (match keyEq k k0 with
      | some b => split b (K v0) (aFindK k r K Kn)
      | none => False)
/-- A map's entry is set. -/
def aSetK (k v : AV) : List (AV × AV) → (List (AV × AV) → Prop) → Prop
  | [], K => K [(k, v)]
  | (k0, v0) :: r, K => (match keyEq k k0 with
      | some b => split b (K ((k, v) :: r)) (aSetK k v r fun es => K ((k0, v0) :: es))
      | none => False)
def keyOk (kt : TypeId) (k : AV) : Bool :=
  match (C.T kt).kind, k with
  | .int k, .int k' _ => decide (k = k')
  | .str, .str _ => true
  | _, _ => false
/-- 's == nil' of a slice that may be nil. -/
def nilTest (op : BinOp) (t : TypeId) (a b : AV) : Option (Bool × List (List AV)) :=
  match (C.T t).kind, a, b with
  | .slice _, .sl .any _ es, .nils => (match op with | .eql => some (true, es) | .neq => some (false, es) | _ => none)
  | .slice _, .sl (.acc _) _ es, .nils => (match op with | .eql => some (true, es) | .neq => some (false, es) | _ => none)
  | _, _, _ => none
/-- One operation: K goes on with its value, Qp with a panic. -/
def aOpE (o : Oper) (e : Operand → AV) (S : St) (K : AV → St → Prop) (Qp : AV → St → Prop) : Prop :=
  match o.op with
  | .move x | .assign x => force (e x) fun y => K y S
  | .pick c a b => (match e c with
      | .bool t => split t (force (e a) fun y => K y S) (force (e b) fun y => K y S)
      | _ => False)
  | .alloc t => when (known C t) <| ∀ b, S b = none → forceL (cellsOf (ofV (C.T t).zero)) fun cs => K (.ref b 0) (S.upd b (.obj t cs))
  | .box t x => force (e x) fun y => when (okCells y) <| ∀ b, S b = none → forceL (cellsOf y) fun cs => K (.ref b 0) (S.upd b (.obj t cs))
  | .build t parts => (match (C.T t).kind with
      | .strct fs => (match aFill (fun i => (fs[i]?).map fun f => (f.1, (C.T f.2).size)) (cellsOf (ofV (C.T t).zero)) (parts.toList.map fun p => (p.1, e p.2)) with
        | some cells => when (fs.all fun f => known C f.2) (forceL cells fun cs => K (.ag cs) S)
        | none => False)
      | _ => False)
  | .buildSlice t n parts => (match (C.T t).kind with
      | .slice te => when (known C te && (Nat.ble (n * (C.T te).size) 4096 && Nat.blt 0 (C.T te).size)) (match aFill (fun i => some (i * (C.T te).size, (C.T te).size)) (mulL 0 (cellsOf (ofV (C.T te).zero)) n) (parts.toList.map fun p => (p.1, e p.2)) with
        | some cells => ∀ b, S b = none → forceR (rowsOf (C.T te).size cells n) fun rs => K (.sl (.own b) (C.T te).size rs) (S.upd b (.tip te (C.T te).size n))
        | none => False)
      | _ => False)
  | .load t p => aLoad C t (e p) S fun y => K y S
  | .store t p x => force (e x) fun y => aStore C t (e p) y S fun S' => K .top S'
  | .nilCheck x => (match e x with
      | .ref b o => K (.ref b o) S
      | .imm xs => K (.imm xs) S
      | .ifc t y => K (.ifc t y) S
      | .fn (.func f) a b => K (.fn (.func f) a b) S
      | _ => False)
  | .binOp op t x y _ => (match nilTest C op t (e x) (e y) with
      | some (pos, es) => ∀ c : Bool, (es ≠ [] → c = !pos) → K (.bool c) S
      | none => aBin C op t x y (e x) (e y) fun z => K z S)
  | .unOp op _ x => aUn op (e x) fun z => K z S
  | .convert s d x => aConv C s d (e x) S fun z => K z S
  | .makeInterface t x => (match (C.T t).kind with | .iface _ | .other => False | _ => force (e x) fun y => K (.ifc t y) S)
  | .makeFunc f a b => forceL (a.toList.map e) fun xs => forceL (b.toList.map e) fun ys => K (.fn f xs ys) S
  | .slice t x lo hi mx => aSlice C t (e x) (lo.map e) (hi.map e) (mx.map e) fun y => K y S
  | .fieldAddr t p f => aFieldAddr C t (e p) f fun y => K y S
  | .field t x f => aField C t (e x) f fun y => K y S
  | .indexAddr t x i => aIndexAddr C t (e x) (e i) fun y => K y S
  | .index t x i => aIndex C t (e x) (e i) fun y => K y S
  | .extract x i => (match e x with
      | .tu xs => (match xs.drop i with | y :: _ => force y fun z => K z S | [] => False)
      | _ => False)
  | .makeSlice t l c => (match (C.T t).kind, e l, e c with
      | .slice te, .int _ n, .int _ m => when (known C te) ((0 ≤ n ∧ n ≤ m ∧ (C.T te).bytes * m ≤ 140737488355328 ∧ m ≤ 9223372036854775807) ∧
          ∀ b, S b = none → K (.arr b 0 n.toNat m.toNat) (S.upd b (.obj te (mulL 0 (cellsOf (ofV (C.T te).zero)) m.toNat))))
      | _, _, _ => False)
  | .typeAssert x xt asserted ok => (match (C.T asserted).kind with
      | .iface _ | .other => False
      | _ => (match e x, ok with
        | .nili, true => force (ofV (C.T asserted).zero) fun z => K (.tu [z, .bool false]) S
        | .ifc t y, true => (match Nat.beq t asserted with
            | true => force y fun y => K (.tu [y, .bool true]) S
            | false => force (ofV (C.T asserted).zero) fun z => K (.tu [z, .bool false]) S)
        | .ifc t y, false => when (Nat.beq t asserted) (force y fun y => K y S)
        | _, _ => False))
  | .makeMap t none => (match (C.T t).kind with
      | .map _ _ => ∀ r, S r = none → K (.mp r) (S.upd r (.mapo []))
      | _ => False)
  | .insert t m k v | .mapUpdate t m k v => (match (C.T t).kind, e m with
      | .map kt _, .mp r => force (e k) fun kk => force (e v) fun vv => when (keyOk C kt kk) (∃ es, S r = some (.mapo es) ∧ aSetK kk vv es fun es' => K .top (S.upd r (.mapo es')))
      | _, _ => False)
  | .lookup t m k ok => (match (C.T t).kind, e m with
      | .map kt et, .mp r => force (e k) fun kk => when (keyOk C kt kk && known C et) (∃ es, S r = some (.mapo es) ∧ aFindK kk es
          (fun v => K (match ok with | true => .tu [v, .bool true] | false => v) S)
          (force (ofV (C.T et).zero) fun z => K (match ok with | true => .tu [z, .bool false] | false => z) S))
      | .map kt et, .nilm => force (e k) fun kk => when (keyOk C kt kk && known C et) (force (ofV (C.T et).zero) fun z => K (match ok with | true => .tu [z, .bool false] | false => z) S)
      | _, _ => False)
  | .range t x => (match (C.T t).kind, e x with
      | .str, .str s => ∀ b, S b = none → K (.ref b 0) (S.upd b (.siter s 0))
      | .map _ _, .mp r => ∃ es, S r = some (.mapo es) ∧ ∀ b, (S.del r) b = none → K (.ref b 0) ((S.del r).upd b (.miter none es))
      | .map _ _, .nilm => ∀ b, S b = none → K (.ref b 0) (S.upd b (.miter none []))
      | _, _ => False)
  | .next x true => (match e x with
      | .ref b 0 => ∃ s pos, S b = some (.siter s pos) ∧ split (decide (pos < s.size))
          (K (.tu [.bool true, .int .i64 (pos : Int), .int .i32 (Utf8.decode s pos).1]) (S.upd b (.siter s (pos + (Utf8.decode s pos).2))))
          (K (.tu [.bool false]) S)
      | _ => False)
  | .next x false => (match e x with
      | .ref b 0 => ∃ cur left, S b = some (.miter cur left) ∧ (left = [] → K (.tu [.bool false]) S) ∧ ∀ pre kv post, left = pre ++ kv :: post → K (.tu [.bool true, kv.1, kv.2]) (S.upd b (.miter (some kv) (pre ++ post)))
      | _ => False)
  | .entry x => (match e x with
      | .ref b 0 => ∃ kv left, S b = some (.miter (some kv) left) ∧ K (.tu [kv.1, kv.2]) S
      | _ => False)
  | .panic x => (match e x with
      | .ifc t y => Qp (.ifc t y) S
      | _ => False)
  | .call c => (match c.callee with
      | .builtin b => aBuiltin C b c.argTypes.toList (c.args.toList.map e) S K
      | .value f => aCall P C (e f) (c.args.toList.map e) S K Qp
      | .invoke _ _ => False)
  | _ => False
/-- append onto a row that may be written: in place, where there is room. -/
def aAppendArr (t t' : TypeId) (b n cap : Nat) (x : AV) (S : St) (K : AV → St → Prop) : Prop :=
  match (C.T t).kind, x with
  | .slice e, .sl _ k new => when (known C e && (Nat.blt 0 (C.T e).size && (Nat.blt 0 (C.T e).bytes && (Nat.beq t t' && Nat.beq (C.T e).size k))))
      (∃ cells, S b = some (.obj e cells) ∧ (n ≤ cap ∧ cap * k ≤ cells.length ∧ cap ≤ maxLen ∧ (n + new.length) * (C.T e).bytes ≤ 140737488355328) ∧
        split (decide (n + new.length ≤ cap))
          (K (.arr b 0 (n + new.length) cap) (S.upd b (.obj e (setRange cells (n * k) new.flatten))))
          (∀ b' cap', S b' = none → n + new.length ≤ cap' → cap' ≤ maxLen → K (.arr b' 0 (n + new.length) cap') (S.upd b' (.obj e (cells.take (n * k) ++ (new.flatten ++ mulL 0 (cellsOf (ofV (C.T e).zero)) (cap' - (n + new.length))))))))
  | _, _ => False
def aOp (o : Oper) (env : Env) (S : St) (K : AV → St → Prop) (Qp : AV → St → Prop) : Prop :=
  match o.op with
  | .call c => (match c.callee, c.argTypes.toList, c.args.toList with
      | .builtin .append, [t, t'], [s, x] => (match ev C env s with
          | .arr b 0 n cap => aAppendArr C t t' b n cap (ev C env x) S K
          | _ => aOpE P C o (ev C env) S K Qp)
      | _, _, _ => aOpE P C o (ev C env) S K Qp)
  | _ => aOpE P C o (ev C env) S K Qp

/-- The operations of a region, in the text's order. -/
def aOps (ops : List Oper) : List Oper → Env → St → (Env → St → Prop) → (AV → St → Prop) → Prop
  | [], env, S, K, Qp => K env S
  | o :: r, env, S, K, Qp =>
    match o.guard with
    | none => aOp P C o env S (fun x S' => putK o.dst x env fun env' => aOps ops r env' S' K Qp) Qp
    | some (j, want) =>
      match (ops[j]?).bind (·.dst) with
      | some d => (match look d env with
        | .bool b => split b
            (match want with
              | true => aOp P C o ((d, .bool true) :: env) S (fun x S' => putK o.dst x ((d, .bool true) :: env) fun env' => aOps ops r env' S' K Qp) Qp
              | false => putK o.dst .top ((d, .bool true) :: env) fun env' => aOps ops r env' S K Qp)
            (match want with
              | false => aOp P C o ((d, .bool false) :: env) S (fun x S' => putK o.dst x ((d, .bool false) :: env) fun env' => aOps ops r env' S' K Qp) Qp
              | true => putK o.dst .top ((d, .bool false) :: env) fun env' => aOps ops r env' S K Qp)
        | _ => False)
      | none => False

/-! ### A region that draws its order -/
def aLenQ (t : TypeId) (x : AV) (K : AV → Prop) : Prop :=
  match (C.T t).kind, x with
  | .str, .str s => K (.int .i64 (s.size : Int))
  | .slice _, .sl _ _ es => K (.int .i64 (es.length : Int))
  | .slice _, .nils => K (.int .i64 0)
  | .slice _, .arr _ _ n _ => K (.int .i64 (n : Int))
  | _, _ => False
/-- An operation that leaves the store. -/
def aOpQ (o : Oper) (e : Operand → AV) (S : St) (K : AV → Prop) : Prop :=
  match o.op with
  | .call c => (match c.callee, c.argTypes.toList, c.args.toList with
      | .builtin .len, [t], [x] => aLenQ C t (e x) K
      | _, _, _ => False)
  | .binOp op t x y _ => aBin C op t x y (e x) (e y) K
  | .convert s d x => aConv C s d (e x) S K
  | _ => aOpE P C o e S (fun y _ => K y) (fun _ _ => False)
/-- 0: it asks nothing of the store; 1: it reads; 2: it lays something new; 3: any other. -/
def opClass (o : Oper) : Nat :=
  match o.op with
  | .move _ | .assign _ | .pick .. | .build .. | .nilCheck _ | .binOp .. | .unOp .. | .convert .. | .makeInterface .. | .makeFunc .. | .slice .. | .fieldAddr .. | .field .. | .indexAddr .. | .index .. | .extract .. => 0
  | .load .. => 1
  | .alloc _ | .box .. | .buildSlice .. | .makeSlice .. => 2
  | .call c => (match c.callee with
      | .builtin .len => 0
      | .builtin .append => 2
      | _ => 3)
  | _ => 3
/-- 4: a call that leaves the store, as the plan says. -/
def clsOf (qc : List Nat) (i : Nat) (o : Oper) : Nat := bif qc.any (Nat.beq i) then 4 else opClass o
def aCore (c : Nat) (o : Oper) (e : Operand → AV) (S : St) (K : AV → St → Prop) (Qp : AV → St → Prop) : Prop :=
  match c with
  | 0 | 1 => aOpQ P C o e S fun x => K x S
  | 4 => ∃ x, aOpE P C o e S (fun y S' => y = x ∧ S' = S) (fun _ _ => False) ∧ K x S
  | _ => aOpE P C o e S K Qp
def aStep (qc : List Nat) (ops : List Oper) (i : Nat) (env : Env) (S : St) (K : Env → St → Prop) (Qp : AV → St → Prop) : Prop :=
  match ops[i]? with
  | none => False
  | some o =>
    match o.guard with
    | none => aCore P C (clsOf qc i o) o (ev C env) S (fun x S' => putK o.dst x env fun env' => K env' S') Qp
    | some (j, want) =>
      match (ops[j]?).bind (·.dst) with
      | some d => (match look d env with
        | .bool b => split b
            (match want with
              | true => aCore P C (clsOf qc i o) o (ev C env) S (fun x S' => putK o.dst x env fun env' => K env' S') Qp
              | false => putK o.dst .top env fun env' => K env' S)
            (match want with
              | false => aCore P C (clsOf qc i o) o (ev C env) S (fun x S' => putK o.dst x env fun env' => K env' S') Qp
              | true => putK o.dst .top env fun env' => K env' S)
        | _ => False)
      | none => False
/-- An order to walk in: 'free i': i may be taken first, whatever else is ready; 'one': one of the ways, and the others. -/
inductive Plan where
  | done
  | free (i : Nat) (p : Plan)
  | one (i : Nat) (p q : Plan)
  | none
def aPlan (qc : List Nat) (ops : List Oper) : Plan → Env → St → (Env → St → Prop) → (AV → St → Prop) → Prop
  | .done, env, S, K, Qp => K env S
  | .free i p, env, S, K, Qp => aStep P C qc ops i env S (fun env' S' => aPlan qc ops p env' S' K Qp) Qp
  | .one i p .none, env, S, K, Qp => aStep P C qc ops i env S (fun env' S' => aPlan qc ops p env' S' K Qp) Qp
  | .one i p q, env, S, K, Qp => aStep P C qc ops i env S (fun env' S' => aPlan qc ops p env' S' K Qp) Qp ∧ aPlan qc ops q env S K Qp
  | .none, env, S, K, Qp => True
def mixes (ci cj : Nat) : Bool :=
  match ci with
  | 0 => true
  | 1 => Nat.ble cj 2 || Nat.beq cj 4
  | 4 => Nat.ble cj 1 || Nat.beq cj 4
  | _ => false
/-- What must wait for the operation i, by way of others too. -/
def depsL (ops : Array Oper) (i : Nat) : List Nat :=
  (List.range ops.size).foldl (fun D j => bif (match ops[j]? with | some oj => oj.after.any fun e => Region.binds .any e && (Nat.beq e.on i || D.any (Nat.beq e.on)) | none => false) then j :: D else D) []
def freeB (qc : List Nat) (ops : Array Oper) (listed : Array Bool) (i : Nat) : Bool :=
  match ops[i]? with
  | none => false
  | some oi =>
    let D := depsL ops i
    (D.all fun j => match ops[j]? with
      | some oj => !listed.getD j true && oj.after.any fun e => Region.binds .any e && (Nat.beq e.on i || D.any (Nat.beq e.on))
      | none => false) &&
    (List.range ops.size).all fun j =>
      Nat.beq j i || listed.getD j true || D.any (Nat.beq j) ||
      match ops[j]? with
      | none => true
      | some oj => oi.apart ops oj && mixes (clsOf qc i oi) (clsOf qc j oj)
def readyL (ops : Array Oper) (listed : Array Bool) : List Nat :=
  (List.range ops.size).filter fun i => !listed.getD i true && ((ops[i]?).map (·.after.all fun e => !Region.binds .any e || listed.getD e.on false)).getD false
def Plan.quietAt (qc : List Nat) (ops : Array Oper) (i : Nat) : Bool :=
  match ops[i]? with
  | some o => Nat.ble (clsOf qc i o) 1 || Nat.beq (clsOf qc i o) 4
  | _ => false
def Plan.ok (qc : List Nat) (ops : Array Oper) : Plan → Nat → Array Bool → List Nat → Bool
  | .done, _, l, _ => (readyL ops l).isEmpty
  | .free i p, n + 1, l, _ => (readyL ops l).contains i && freeB qc ops l i && Plan.quietAt qc ops i && Plan.ok qc ops p n (l.setIfInBounds i true) []
  | .one i p q, n + 1, l, acc => Plan.ok qc ops p n (l.setIfInBounds i true) [] && Plan.ok qc ops q (n + 1) l (i :: acc)
  | .none, _ + 1, l, acc => !(readyL ops l).isEmpty && (readyL ops l).all acc.contains
  | _, _, _, _ => false
/-- The text's own order. -/
def Plan.lin (n : Nat) : Nat → Plan
  | 0 => .done
  | m + 1 => .free (n - (m + 1)) (Plan.lin n m)

/-! ### Code -/
inductive AExit where
  | normal
  | exit (id : Nat)
  | ret
  | panic (x : AV)

/-- What a loop's head asks of a value: less may be said there. -/
def AV.le : AV → AV → Prop
  | _, .top => True
  | .sl _ k es, .sl .any k' es' => k = k' ∧ es = es'
  | .sl sh k es, .sl .nn k' es' => sh.mayNil = false ∧ k = k' ∧ es = es'
  | .nils, .sl .any _ es => es = []
  | .nils, .sl (.acc _) _ es => es = []
  | .sl (.own b) k es, .sl (.acc b') k' es' => es ≠ [] ∧ b = b' ∧ k = k' ∧ es = es'
  | a, b => a = b
mutual
/-- The same where what S has beyond S' is let go. -/
def AV.leS (S S' : St) : AV → AV → Prop
  | .sl sh k es, y => (match y with
      | .sl .any k' es' => k = k' ∧ es = es'
      | .sl .nn k' es' => sh.mayNil = false ∧ k = k' ∧ es = es'
      | .top => True
      | y => AV.sl sh k es = y)
  | .nils, y => (match y with
      | .sl .any _ es => es = []
      | .top => True
      | y => AV.nils = y)
  | .ref b off, y => (match y with
      | .imm xs => S' b = none ∧ ∃ e cells, S b = some (.obj e cells) ∧ xs = cells.drop off
      | .top => True
      | y => AV.ref b off = y)
  | .ifc t x, y => (match y with
      | .ifc t' y => t = t' ∧ AV.leS S S' x y
      | .top => True
      | _ => False)
  | .tu xs, y => (match y with
      | .tu ys => AV.leSL S S' xs ys
      | .top => True
      | _ => False)
  | .ag xs, y => (match y with
      | .ag ys => AV.leSL S S' xs ys
      | .top => True
      | _ => False)
  | x, y => (match y with
      | .top => True
      | y => x = y)
def AV.leSL (S S' : St) : List AV → List AV → Prop
  | [], ys => ys = []
  | x :: xs, ys => (match ys with
      | [] => False
      | y :: ys => AV.leS S S' x y ∧ AV.leSL S S' xs ys)
end
def Env.le (env : Env) : Env → Prop
  | [] => True
  | (t, x) :: r => AV.le (look t env) x ∧ Env.le env r

def leL : List AV → List AV → Prop
  | [], [] => True
  | x :: xs, y :: ys => AV.le x y ∧ leL xs ys
  | _, _ => False
/-- S₀ says less of what its cells hold. -/
def St.leW (S₀ S : St) : Prop := ∀ b, S₀ b = S b ∨ ∃ e cs cs', S b = some (.obj e cs) ∧ S₀ b = some (.obj e cs') ∧ leL cs cs'
structure LoopI where
  ι : Type
  F : ι → Env
  G : ι → St → Prop
  μ : ι → Nat

def awp : Code → Env → St → (AExit → Env → St → Prop) → Prop
  | .skip, env, S, Q => Q .normal env S
  | .label _, env, S, Q => Q .normal env S
  | .ret, env, S, Q => Q .ret env S
  | .exit id, env, S, Q => Q (.exit id) env S
  | .seq a b, env, S, Q => awp a env S fun e env' S' => match e with
      | .normal => awp b env' S' Q
      | e => Q e env' S'
  | .region _ ops false, env, S, Q => aOps P C ops.toList ops.toList env S (fun env' S' => Q .normal env' S') (fun x S' => Q (.panic x) [] S')
  | .region _ ops true, env, S, Q => ∃ (qc : List Nat) (pl : Plan) (M : Env → St → Prop), pl.ok qc ops ops.size (Array.replicate ops.size false) [] = true ∧
      aPlan P C qc ops.toList pl env S M (fun x S' => Q (.panic x) [] S') ∧ ∀ env' S', M env' S' → ∃ F, (F = env' ∨ Env.le env' F) ∧ Q .normal F S'
  | .cond (.tmp t) x y, env, S, Q => (match look t env with
      | .bool b => split b (awp x ((t, .bool true) :: env) S Q) (awp y ((t, .bool false) :: env) S Q)
      | _ => False)
  | .block id c, env, S, Q => awp c env S fun e env' S' => match e with
      | .exit id' => (bif Nat.beq id' id then Q .normal env' S' else Q (.exit id') env' S')
      | e => Q e env' S'
  | .scope c, env, S, Q => False
  | .loop c, env, S, Q => ∃ L : LoopI, (∃ i, Env.le env (L.F i) ∧ ∃ S₀, St.leW S₀ S ∧ L.G i S₀) ∧ ∀ i S₁, L.G i S₁ → awp c (L.F i) S₁ fun e env' S' => match e with
      | .normal => ∃ j, Env.le env' (L.F j) ∧ (∃ S₀, St.leW S₀ S' ∧ L.G j S₀) ∧ L.μ j < L.μ i
      | e => Q e env' S'
  | _, _, _, _ => False

def aRes (env : Env) (S : St) : List ResultVar → (List AV → Prop) → Prop
  | [], K => K []
  | .tmp t :: r, K => force (look t env) fun x => aRes env S r fun xs => K (x :: xs)
  | .cell a t :: r, K => aLoad C t (look a env) S fun x => aRes env S r fun xs => K (x :: xs)
def aOut (rs : List ResultVar) (env : Env) (S : St) (K : AV → Prop) : Prop :=
  match rs with
  | [r] => aRes C env S [r] fun xs => (match xs with | [x] => K x | _ => False)
  | rs => aRes C env S rs fun xs => K (.tu xs)
/-- The end of a body: what was made and isn't told is let go, and can be read from then on. -/
def aPost (rs : List ResultVar) (Q : Out → St → Prop) : AExit → Env → St → Prop
  | .normal, env, S | .ret, env, S => aOut C rs env S fun x => ∃ y S', Q (.ret y) S' ∧ St.le S' S ∧ AV.leS S S' x y
  | .panic x, env, S => force x fun x => ∃ y S', Q (.pan y) S' ∧ St.le S' S ∧ AV.leS S S' x y
  | _, _, _ => False
def argEnv (i : Nat) : List AV → Env
  | [] => []
  | x :: r => (i, x) :: argEnv (i + 1) r
end

/-- Does every operation write a slot of the frame? -/
def dstOk (n : Nat) : Code → Bool
  | .region _ ops _ => ops.toList.all fun o => match o.dst with | some d => Nat.blt d n | none => true
  | .seq a b => dstOk n a && dstOk n b
  | .cond _ a b => dstOk n a && dstOk n b
  | .block _ c => dstOk n c
  | .loop c => dstOk n c
  | _ => true

end Go.Proofs.YtikkoaoibomofaaGreatDoor.Aw

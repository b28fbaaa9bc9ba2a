/-
  The words of an abstract walk over the model: values that bear their contents (AV), a ghost store of what may still be written (St), how a value of the model lies under one (Rel), what the store says of the memory (Inv), and what a step leaves as it was (Adv). Of no program; no condition.
  The abstract walk's operations: what an operation of the model comes to on abstract values (aOp), code (awp) as a Lean function of the code, the contract of a function (Triple). Definitions alone; no condition.
  The abstract walk is sound: small facts on values, types and worlds, and each operation. No condition.
  The abstract walk is sound: reading and writing memory. No condition.
  The abstract walk is sound: the operations, one by one. No condition.
  The abstract walk is sound: operations that leave the world as it is. No condition.
  The abstract walk is sound: operations that write or make memory. No condition.
-/
import Derived.WalkKit
import Derived.Maps.AppendAt
import Derived.Below
import Derived.OneCell
import Derived.KernelRfl
import Derived.RangeFuncSeq
import Derived.RangeFuncLeaves
import Derived.RangeFuncRecord
import Derived.RangeFuncCalls
import Derived.Sort.LoopGhostIn
import Derived.OrdersIn
import Derived.Laws.CopyRow
import Derived.Lib.Strings
import Derived.Laws.StructEq
import Derived.Laws.IdiomStrings
set_option linter.unusedVariables false
set_option linter.unusedSimpArgs false
namespace Go.Proofs.YtdlgedpmbeafdaaGreatDoor.Aw
open Go Go.RowKit

/-- How a slice's array may be used: 'any': read alone (nil, if it is empty, perhaps); 'nn': not nil; 'full': not nil, no room; 'own b': the call's own row, which may be appended to; 'acc b': that, or nil where it is empty. -/
inductive Sh where
  | any | nn | full
  | own (b : Nat)
  | acc (b : Nat)
def Sh.mayNil : Sh → Bool
  | .any | .acc _ => true
  | _ => false
/-- The empty slice's value: nil; where it is read alone, also a place without cells. -/
def NilV (sh : Sh) (v : Value) : Prop := v = .slice none 0 0 ∨ (sh = .any ∧ ∃ a : Addr, v = .slice (some a) 0 0)
theorem NilV.cases {sh : Sh} {v : Value} (h : NilV sh v) : v = .slice none 0 0 ∨ ∃ a : Addr, v = .slice (some a) 0 0 := h.imp id fun h => h.2
theorem NilV.slice {sh : Sh} {v : Value} (h : NilV sh v) : ∃ p : Option Addr, v = .slice p 0 0 := by
  rcases h with h | ⟨_, a, h⟩
  · exact ⟨_, h⟩
  · exact ⟨_, h⟩
theorem NilV.any {sh : Sh} {v : Value} (h : NilV sh v) : NilV .any v := h.imp id fun h => ⟨rfl, h.2⟩
theorem NilV.acc {b : Nat} {v : Value} (h : NilV (.acc b) v) : v = .slice none 0 0 := h.resolve_right fun h => by cases h.1
def Sh.less : Sh → Sh
  | .any | .acc _ => .any
  | _ => .nn

inductive AV where
  | int (k : IntKind) (n : Int)
  | bool (b : Bool)
  | str (s : ByteArray)
  | nilp
  | ref (b off : Nat)
  | imm (xs : List AV)
  | nils
  | sl (sh : Sh) (k : Nat) (es : List (List AV))
  | arr (b off n cap : Nat)
  | ag (xs : List AV)
  | tu (xs : List AV)
  | nilf
  | fn (f : Fn) (first cap : List AV)
  | nili
  | ifc (t : TypeId) (x : AV)
  | nilm
  | mp (r : Nat)
  | raw (v : Value)
  | top
instance : Inhabited AV := ⟨.top⟩

/-- How a range over a function stands: its record is ready, a round is under way, a round has left it by that jump. -/
inductive LpSt where
  | ready
  | busy
  | done (c : Code)
/-- What may still be written: a row of cells, a row that may be appended to, a map; the record of a range over a function. -/
inductive Own where
  | obj (e : TypeId) (cells : List AV)
  | tip (e : TypeId) (k n : Nat)
  | mapo (es : List (AV × AV))
  | siter (s : ByteArray) (pos : Nat)
  | miter (cur : Option (AV × AV)) (left : List (AV × AV))
  | lp (R : LpSt → Loop) (st : LpSt)

def St := Nat → Option Own
def St.emp : St := fun _ => none
def St.upd (S : St) (b : Nat) (o : Own) : St := fun x => if x = b then some o else S x
def St.del (S : St) (b : Nat) : St := fun x => if x = b then none else S x
theorem St.upd_same (S : St) (b : Nat) (o : Own) : (S.upd b o) b = some o := if_pos rfl
theorem St.upd_ne (S : St) (b : Nat) (o : Own) (x : Nat) (h : x ≠ b) : (S.upd b o) x = S x := if_neg h
theorem St.del_same (S : St) (b : Nat) : (S.del b) b = none := if_pos rfl
theorem St.del_ne (S : St) (b x : Nat) (h : x ≠ b) : (S.del b) x = S x := if_neg h
theorem St.upd_upd (S : St) (b : Nat) (o o' : Own) : (S.upd b o).upd b o' = S.upd b o' := by
  funext x; simp only [St.upd]; split <;> rfl
/-- S' has what S has. -/
def St.le (S S' : St) : Prop := ∀ b o, S b = some o → S' b = some o
theorem St.le_refl (S : St) : St.le S S := fun _ _ h => h
theorem St.le_trans {S S' S'' : St} (h : St.le S S') (h' : St.le S' S'') : St.le S S'' := fun b o e => h' b o (h b o e)
theorem St.le_upd {S S' : St} (h : St.le S S') {b : Nat} (hb : S b = none) (o : Own) : St.le S (S'.upd b o) := fun x p e => by
  have : x ≠ b := fun hx => by rw [hx, hb] at e; cases e
  rw [St.upd_ne _ _ _ _ this]; exact h x p e
theorem St.ne_of' {S : St} {b x : Nat} {o : Own} (hx : S x = none) (hb : S b = some o) : x ≠ b := fun e => by rw [e, hb] at hx; cases hx
theorem St.ne_of {S : St} {b x : Nat} {o : Own} (hb : S b = none) (hx : S x = some o) : x ≠ b := fun e => by rw [e, hb] at hx; cases hx

/-- May the cell be read as it was, for ever? -/
def rdOf (S : St) (b off : Nat) : Prop :=
  match S b with
  | none => True
  | some (.tip _ k n) => off < n * k
  | some _ => False

section
variable (w : World) (rd : Nat → Nat → Prop)
def stab (b off : Nat) (v : Value) : Prop := rd b off ∧ w.cell? ⟨b, off, none⟩ = some v ∧ v.oneCell' = true

def ShOk (sh : Sh) (k b off n cap : Nat) : Prop :=
  match sh with
  | .any => True
  | .nn => True
  | .full => cap = n
  | .own b' => b' = b ∧ off = 0 ∧ ∃ e, w.shape? b = some (e, cap * k)
  | .acc b' => 0 < n ∧ b' = b ∧ off = 0 ∧ ∃ e, w.shape? b = some (e, cap * k)

mutual
def Rel : AV → Value → Prop
  | .int k n, v => v = .int k n
  | .bool b, v => v = .bool b
  | .str s, v => v = .string s
  | .nilp, v => v = .pointer none
  | .ref b off, v => v = .pointer (some ⟨b, off, none⟩)
  | .imm xs, v => ∃ b off, v = .pointer (some ⟨b, off, none⟩) ∧ RelAt b off xs
  | .nils, v => v = .slice none 0 0
  | .sl sh k es, v => (sh.mayNil = true ∧ es = [] ∧ NilV sh v) ∨ ∃ b off cap, v = .slice (some ⟨b, off, none⟩) es.length cap ∧ es.length ≤ cap ∧ cap ≤ maxLen ∧ ShOk w sh k b off es.length cap ∧ RelRows k b off es
  | .arr b off n cap, v => v = .slice (some ⟨b, off, none⟩) n cap
  | .ag xs, v => ∃ cs : Array Value, v = .agg cs ∧ RelL xs cs.toList ∧ ∀ u ∈ cs.toList, u.oneCell' = true
  | .tu xs, v => ∃ cs : Array Value, v = .tuple cs ∧ RelL xs cs.toList
  | .nilf, v => v = .nilFunc
  | .fn f xs ys, v => ∃ a b : Array Value, v = .func f a b ∧ RelL xs a.toList ∧ RelL ys b.toList
  | .nili, v => v = .nilIface
  | .ifc t x, v => ∃ y, v = .iface t y ∧ Rel x y
  | .nilm, v => v = .map none
  | .mp r, v => v = .map (some r)
  | .raw u, v => v = u
  | .top, _ => True
def RelL : List AV → List Value → Prop
  | [], vs => vs = []
  | x :: xs, vs => ∃ u us, vs = u :: us ∧ Rel x u ∧ RelL xs us
def RelAt (b off : Nat) : List AV → Prop
  | [] => True
  | x :: xs => (∃ v, stab w rd b off v ∧ Rel x v) ∧ RelAt b (off + 1) xs
def RelRows (k b off : Nat) : List (List AV) → Prop
  | [] => True
  | e :: es => (e.length = k ∧ RelAt b off e) ∧ RelRows k b (off + k) es
end
end

def BornOk (ms : Array MapEntry) (clock : Nat) : Prop := (∀ e ∈ ms.toList, e.born < clock) ∧ (ms.toList.map (·.born)).Nodup
/-- A loop over a map that nobody writes any more: what is left of it. -/
def MiterOk (w : World) (rd : Nat → Nat → Prop) (m : Option Nat) (since : Nat) (seen : Array Nat) (last : Nat) (cur : Option (AV × AV)) (left : List (AV × AV)) : Prop :=
  match m with
  | none => left = [] ∧ cur = none
  | some r => (∀ off, rd r off) ∧ ∃ ms : Array MapEntry, w.heap[r]? = some (.map ms since) ∧ last = since ∧ BornOk ms since ∧
      RelL w rd (left.map (·.1)) ((ms.toList.filter fun e => !seen.contains e.born).map (·.key)) ∧ RelL w rd (left.map (·.2)) ((ms.toList.filter fun e => !seen.contains e.born).map (·.val)) ∧
      ∀ kv, cur = some kv → ∃ e ∈ ms.toList, seen.back? = some e.born ∧ Rel w rd kv.1 e.key ∧ Rel w rd kv.2 e.val
/-- What the ghost store says of the memory. -/
def OwnOk (w : World) (rd : Nat → Nat → Prop) (b : Nat) : Own → Prop
  | .obj e cells => ∃ cs : Array Value, w.heap[b]? = some (.cells cs e (0, 0)) ∧ RelL w rd cells cs.toList ∧ ∀ v ∈ cs.toList, v.oneCell' = true
  | .tip e k n => ∃ (cur : Array Value) (cap : Nat), w.heap[b]? = some (.cells cur e (0, 0)) ∧ n ≤ cap ∧ cap ≤ maxLen ∧ cur.size = cap * k ∧ ∀ v ∈ cur.toList, v.oneCell' = true
  | .mapo es => ∃ (ms : Array MapEntry) (clock : Nat), w.heap[b]? = some (.map ms clock) ∧ RelL w rd (es.map (·.1)) (ms.toList.map (·.key)) ∧ RelL w rd (es.map (·.2)) (ms.toList.map (·.val)) ∧ BornOk ms clock
  | .siter s pos => w.heap[b]? = some (.stringIter s pos)
  | .miter cur left => ∃ m since seen last, w.heap[b]? = some (.mapIter m since seen last) ∧ MiterOk w rd m since seen last cur left
  | .lp R st => w.heap[b]? = some (.loop (R st))
def Inv (w : World) (S : St) : Prop := ∀ b o, S b = some o → OwnOk w (rdOf S) b o

/-- What a step leaves. -/
structure Adv (w : World) (S : St) (w' : World) (S' : St) : Prop where
  os : w'.os = w.os
  tape : w'.tape = w.tape
  output : w'.output = w.output
  size : w.heap.size ≤ w'.heap.size
  old : ∀ b, b < w.heap.size → S b = none → S' b = none ∧ w'.heap[b]? = w.heap[b]?
  stay : ∀ b off, b < w.heap.size → rdOf S b off → rdOf S' b off ∧ w'.cell? ⟨b, off, none⟩ = w.cell? ⟨b, off, none⟩
  shape : ∀ b e n, w.shape? b = some (e, n) → w'.shape? b = some (e, n)

theorem Adv.refl (w : World) (S : St) : Adv w S w S := ⟨rfl, rfl, rfl, Nat.le_refl _, fun _ _ h => ⟨h, rfl⟩, fun _ _ _ h => ⟨h, rfl⟩, fun _ _ _ h => h⟩
theorem Adv.trans {a b c : World} {S T U : St} (h : Adv a S b T) (k : Adv b T c U) : Adv a S c U :=
  ⟨k.os.trans h.os, k.tape.trans h.tape, k.output.trans h.output, Nat.le_trans h.size k.size,
   fun x hx hn => by
     obtain ⟨h1, h2⟩ := h.old x hx hn
     obtain ⟨k1, k2⟩ := k.old x (Nat.lt_of_lt_of_le hx h.size) h1
     exact ⟨k1, k2.trans h2⟩,
   fun x off hx hr => by
     obtain ⟨h1, h2⟩ := h.stay x off hx hr
     obtain ⟨k1, k2⟩ := k.stay x off (Nat.lt_of_lt_of_le hx h.size) h1
     exact ⟨k1, k2.trans h2⟩,
   fun x e n hx => k.shape x e n (h.shape x e n hx)⟩
theorem Adv.drew {a b : World} {S T : St} (h : Adv a S b T) : Adv a S b.drew T := ⟨h.os, h.tape, h.output, h.size, h.old, h.stay, h.shape⟩
theorem Adv.below {w w' : World} {S' : St} (h : Adv w St.emp w' S') : Below w.heap.size w w' :=
  ⟨h.os, h.tape, h.output, h.size, fun k hk => (h.old k hk rfl).2⟩

section mono
variable {w w' : World} {S S' : St}
theorem stab_mono (h : Adv w S w' S') {b off : Nat} {v : Value} (hs : stab w (rdOf S) b off v) : stab w' (rdOf S') b off v := by
  obtain ⟨h1, h2, h3⟩ := hs
  have hb : b < w.heap.size := World.block_lt_of_cell? w ⟨b, off, none⟩ h2
  obtain ⟨k1, k2⟩ := h.stay b off hb h1
  exact ⟨k1, k2.trans h2, h3⟩
theorem ShOk_mono (h : Adv w S w' S') {sh : Sh} {k b off n cap : Nat} (hs : ShOk w sh k b off n cap) : ShOk w' sh k b off n cap := by
  cases sh with
  | own b' => obtain ⟨h1, h2, e, h3⟩ := hs; exact ⟨h1, h2, e, h.shape _ _ _ h3⟩
  | acc b' => obtain ⟨h0, h1, h2, e, h3⟩ := hs; exact ⟨h0, h1, h2, e, h.shape _ _ _ h3⟩
  | _ => exact hs
mutual
theorem Rel.mono (h : Adv w S w' S') : ∀ (x : AV) (v : Value), Rel w (rdOf S) x v → Rel w' (rdOf S') x v
  | .int .., v, hr => by simpa only [Rel] using hr
  | .bool .., v, hr => by simpa only [Rel] using hr
  | .str .., v, hr => by simpa only [Rel] using hr
  | .nilp, v, hr => by simpa only [Rel] using hr
  | .ref .., v, hr => by simpa only [Rel] using hr
  | .imm xs, v, hr => by
    simp only [Rel] at hr ⊢
    obtain ⟨b, off, h1, h2⟩ := hr
    exact ⟨b, off, h1, RelAt.mono h b off xs h2⟩
  | .nils, v, hr => by simpa only [Rel] using hr
  | .sl sh k es, v, hr => by
    simp only [Rel] at hr ⊢
    rcases hr with hr | ⟨b, off, cap, h1, h2, h3, h4, h5⟩
    · exact .inl hr
    · exact .inr ⟨b, off, cap, h1, h2, h3, ShOk_mono h h4, RelRows.mono h k b off es h5⟩
  | .arr .., v, hr => by simpa only [Rel] using hr
  | .ag xs, v, hr => by
    simp only [Rel] at hr ⊢
    obtain ⟨cs, h1, h2, h3⟩ := hr
    exact ⟨cs, h1, RelL.mono h xs _ h2, h3⟩
  | .tu xs, v, hr => by
    simp only [Rel] at hr ⊢
    obtain ⟨cs, h1, h2⟩ := hr
    exact ⟨cs, h1, RelL.mono h xs _ h2⟩
  | .nilf, v, hr => by simpa only [Rel] using hr
  | .fn f xs ys, v, hr => by
    simp only [Rel] at hr ⊢
    obtain ⟨a, b, h1, h2, h3⟩ := hr
    exact ⟨a, b, h1, RelL.mono h xs _ h2, RelL.mono h ys _ h3⟩
  | .nili, v, hr => by simpa only [Rel] using hr
  | .ifc t x, v, hr => by
    simp only [Rel] at hr ⊢
    obtain ⟨y, h1, h2⟩ := hr
    exact ⟨y, h1, Rel.mono h x y h2⟩
  | .nilm, v, hr => by simpa only [Rel] using hr
  | .mp .., v, hr => by simpa only [Rel] using hr
  | .raw .., v, hr => by simpa only [Rel] using hr
  | .top, v, hr => by simp only [Rel]
theorem RelL.mono (h : Adv w S w' S') : ∀ (xs : List AV) (vs : List Value), RelL w (rdOf S) xs vs → RelL w' (rdOf S') xs vs
  | [], vs, hr => by simpa only [RelL] using hr
  | x :: xs, vs, hr => by
    simp only [RelL] at hr ⊢
    obtain ⟨u, us, h1, h2, h3⟩ := hr
    exact ⟨u, us, h1, Rel.mono h x u h2, RelL.mono h xs us h3⟩
theorem RelAt.mono (h : Adv w S w' S') (b off : Nat) : ∀ (xs : List AV), RelAt w (rdOf S) b off xs → RelAt w' (rdOf S') b off xs
  | [], hr => by simp only [RelAt]
  | x :: xs, hr => by
    simp only [RelAt] at hr ⊢
    obtain ⟨⟨v, h1, h2⟩, h3⟩ := hr
    exact ⟨⟨v, stab_mono h h1, Rel.mono h x v h2⟩, RelAt.mono h b (off + 1) xs h3⟩
theorem RelRows.mono (h : Adv w S w' S') (k b off : Nat) : ∀ (es : List (List AV)), RelRows w (rdOf S) k b off es → RelRows w' (rdOf S') k b off es
  | [], hr => by simp only [RelRows]
  | e :: es, hr => by
    simp only [RelRows] at hr ⊢
    obtain ⟨⟨h1, h2⟩, h3⟩ := hr
    exact ⟨⟨h1, RelAt.mono h b off e h2⟩, RelRows.mono h k b (off + k) es h3⟩
end
end mono

/-! ### Small facts -/
theorem RelL.length {w : World} {rd} : ∀ {xs : List AV} {vs : List Value}, RelL w rd xs vs → xs.length = vs.length
  | [], vs, h => by simp only [RelL] at h; subst h; rfl
  | x :: xs, vs, h => by
    simp only [RelL] at h
    obtain ⟨u, us, rfl, _, h3⟩ := h
    simp [RelL.length h3]
theorem RelL.get {w : World} {rd} : ∀ {xs : List AV} {vs : List Value}, RelL w rd xs vs → ∀ (i : Nat) (x : AV), xs[i]? = some x → ∃ v, vs[i]? = some v ∧ Rel w rd x v
  | [], vs, h, i, x, hi => by simp at hi
  | y :: ys, vs, h, i, x, hi => by
    simp only [RelL] at h
    obtain ⟨u, us, rfl, h2, h3⟩ := h
    cases i with
    | zero => simp at hi; subst hi; exact ⟨u, rfl, h2⟩
    | succ i => simp at hi; simpa using RelL.get h3 i x hi
theorem RelL.drop {w : World} {rd} : ∀ {xs : List AV} {vs : List Value}, RelL w rd xs vs → ∀ n, RelL w rd (xs.drop n) (vs.drop n)
  | xs, vs, h, 0 => by simpa using h
  | [], vs, h, n + 1 => by simp only [RelL] at h; subst h; simp [RelL]
  | x :: xs, vs, h, n + 1 => by
    simp only [RelL] at h
    obtain ⟨u, us, rfl, _, h3⟩ := h
    simpa using RelL.drop h3 n
theorem RelL.take {w : World} {rd} : ∀ {xs : List AV} {vs : List Value}, RelL w rd xs vs → ∀ n, RelL w rd (xs.take n) (vs.take n)
  | xs, vs, h, 0 => by simp [RelL]
  | [], vs, h, n + 1 => by simp only [RelL] at h; subst h; simp [RelL]
  | x :: xs, vs, h, n + 1 => by
    simp only [RelL] at h
    obtain ⟨u, us, rfl, h2, h3⟩ := h
    simp only [List.take_succ_cons, RelL]
    exact ⟨u, us.take n, rfl, h2, RelL.take h3 n⟩
theorem RelL.append {w : World} {rd} : ∀ {xs ys : List AV} {vs us : List Value}, RelL w rd xs vs → RelL w rd ys us → RelL w rd (xs ++ ys) (vs ++ us)
  | [], ys, vs, us, h, k => by simp only [RelL] at h; subst h; simpa using k
  | x :: xs, ys, vs, us, h, k => by
    simp only [RelL] at h
    obtain ⟨u, ws, rfl, h2, h3⟩ := h
    simp only [List.cons_append, RelL]
    exact ⟨u, ws ++ us, rfl, h2, RelL.append h3 k⟩
theorem RelL.set {w : World} {rd} : ∀ {xs : List AV} {vs : List Value}, RelL w rd xs vs → ∀ (i : Nat) (y : AV) (u : Value), Rel w rd y u → RelL w rd (xs.set i y) (vs.set i u)
  | [], vs, h, i, y, u, hy => by simp only [RelL] at h; subst h; simp [RelL]
  | x :: xs, vs, h, 0, y, u, hy => by
    simp only [RelL] at h
    obtain ⟨u', us, rfl, h2, h3⟩ := h
    simp only [List.set_cons_zero, RelL]
    exact ⟨u, us, rfl, hy, h3⟩
  | x :: xs, vs, h, i + 1, y, u, hy => by
    simp only [RelL] at h
    obtain ⟨u', us, rfl, h2, h3⟩ := h
    simp only [List.set_cons_succ, RelL]
    exact ⟨u', us.set i u, rfl, h2, RelL.set h3 i y u hy⟩
theorem RelAt.drop {w : World} {rd} {b : Nat} : ∀ {xs : List AV} {off : Nat}, RelAt w rd b off xs → ∀ n, RelAt w rd b (off + n) (xs.drop n)
  | xs, off, h, 0 => by simpa using h
  | [], off, h, n + 1 => by simp [RelAt]
  | x :: xs, off, h, n + 1 => by
    simp only [RelAt] at h
    have := RelAt.drop h.2 n
    rw [show off + (n + 1) = off + 1 + n from by omega]
    simpa using this
theorem RelAt.get {w : World} {rd} {b : Nat} : ∀ {xs : List AV} {off : Nat}, RelAt w rd b off xs → ∀ (i : Nat) (x : AV), xs[i]? = some x → ∃ v, stab w rd b (off + i) v ∧ Rel w rd x v
  | [], off, h, i, x, hi => by simp at hi
  | y :: ys, off, h, i, x, hi => by
    simp only [RelAt] at h
    cases i with
    | zero => simp at hi; subst hi; simpa using h.1
    | succ i =>
      simp at hi
      have := RelAt.get h.2 i x hi
      rwa [show off + 1 + i = off + (i + 1) from by omega] at this
theorem RelRows.get {w : World} {rd} {k b : Nat} : ∀ {es : List (List AV)} {off : Nat}, RelRows w rd k b off es → ∀ (i : Nat) (e : List AV), es[i]? = some e → e.length = k ∧ RelAt w rd b (off + i * k) e
  | [], off, h, i, e, hi => by simp at hi
  | y :: ys, off, h, i, e, hi => by
    simp only [RelRows] at h
    cases i with
    | zero => simp at hi; subst hi; simpa using h.1
    | succ i =>
      simp at hi
      have := RelRows.get h.2 i e hi
      rwa [show off + k + i * k = off + (i + 1) * k from by rw [Nat.succ_mul]; omega] at this
theorem RelRows.drop {w : World} {rd} {k b : Nat} : ∀ {es : List (List AV)} {off : Nat}, RelRows w rd k b off es → ∀ n, RelRows w rd k b (off + n * k) (es.drop n)
  | es, off, h, 0 => by simpa using h
  | [], off, h, n + 1 => by simp [RelRows]
  | e :: es, off, h, n + 1 => by
    simp only [RelRows] at h
    have := RelRows.drop h.2 n
    rw [show off + (n + 1) * k = off + k + n * k from by rw [Nat.succ_mul]; omega]
    simpa using this
theorem RelRows.take {w : World} {rd} {k b : Nat} : ∀ {es : List (List AV)} {off : Nat}, RelRows w rd k b off es → ∀ n, RelRows w rd k b off (es.take n)
  | es, off, h, 0 => by simp [RelRows]
  | [], off, h, n + 1 => by simp [RelRows]
  | e :: es, off, h, n + 1 => by
    simp only [RelRows] at h
    simp only [List.take_succ_cons, RelRows]
    exact ⟨h.1, RelRows.take h.2 n⟩
theorem RelRows.lens {w : World} {rd} {k b : Nat} : ∀ {es : List (List AV)} {off : Nat}, RelRows w rd k b off es → ∀ e ∈ es, e.length = k
  | [], off, h, e, he => by simp at he
  | y :: ys, off, h, e, he => by
    simp only [RelRows] at h
    rcases List.mem_cons.1 he with rfl | he
    · exact h.1.1
    · exact RelRows.lens h.2 e he
theorem rdOf_all {S : St} {r : Nat} (h : ∀ off, rdOf S r off) : S r = none := by
  cases e : S r with
  | none => rfl
  | some o =>
    cases o with
    | tip e' k n =>
      have := h (n * k)
      simp only [rdOf, e] at this
      omega
    | _ => have := h 0; simp only [rdOf, e] at this
theorem MiterOk.mono {w w' : World} {S S' : St} (h : Adv w S w' S') {m : Option Nat} {since : Nat} {seen : Array Nat} {last : Nat} {cur : Option (AV × AV)} {left : List (AV × AV)} (ho : MiterOk w (rdOf S) m since seen last cur left) : MiterOk w' (rdOf S') m since seen last cur left := by
  cases m with
  | none => exact ho
  | some r =>
    obtain ⟨h1, ms, h2, h3, h4, h5, h6, h7⟩ := ho
    have hn := rdOf_all h1
    obtain ⟨k1, k2⟩ := h.old r (lt_of_block h2) hn
    exact ⟨fun off => by simp only [rdOf, k1], ms, k2.trans h2, h3, h4, RelL.mono h _ _ h5, RelL.mono h _ _ h6, fun kv hkv => by
      obtain ⟨e, e1, e2, e3, e4⟩ := h7 kv hkv
      exact ⟨e, e1, e2, Rel.mono h _ _ e3, Rel.mono h _ _ e4⟩⟩
theorem OwnOk.mono {w w' : World} {S S' : St} (h : Adv w S w' S') {b : Nat} {o : Own} (hb : w'.heap[b]? = w.heap[b]?) (ho : OwnOk w (rdOf S) b o) : OwnOk w' (rdOf S') b o := by
  cases o with
  | obj e cells => obtain ⟨cs, h1, h2, h3⟩ := ho; exact ⟨cs, hb.trans h1, RelL.mono h _ _ h2, h3⟩
  | tip e k n => obtain ⟨cur, cap, h1, h2⟩ := ho; exact ⟨cur, cap, hb.trans h1, h2⟩
  | mapo es => obtain ⟨ms, c, h1, h2, h3, h4⟩ := ho; exact ⟨ms, c, hb.trans h1, RelL.mono h _ _ h2, RelL.mono h _ _ h3, h4⟩
  | siter s pos => exact hb.trans ho
  | lp R st => exact hb.trans ho
  | miter cur left => obtain ⟨m, since, seen, last, h1, h2⟩ := ho; exact ⟨m, since, seen, last, hb.trans h1, MiterOk.mono h h2⟩
theorem OwnOk.lt {w : World} {rd} {b : Nat} {o : Own} (ho : OwnOk w rd b o) : b < w.heap.size := by
  have : ∃ x, w.heap[b]? = some x := by
    cases o with
    | obj e cells => obtain ⟨cs, h1, _⟩ := ho; exact ⟨_, h1⟩
    | tip e k n => obtain ⟨cur, cap, h1, _⟩ := ho; exact ⟨_, h1⟩
    | mapo es => obtain ⟨ms, c, h1, _⟩ := ho; exact ⟨_, h1⟩
    | siter s pos => exact ⟨_, ho⟩
    | lp R st => exact ⟨_, ho⟩
    | miter cur left => obtain ⟨m, since, seen, last, h1, _⟩ := ho; exact ⟨_, h1⟩
  obtain ⟨x, hx⟩ := this
  exact lt_of_block hx
theorem Inv.emp (w : World) : Inv w St.emp := fun b o h => by cases h
theorem Inv.lt {w : World} {S : St} (hi : Inv w S) {b : Nat} {o : Own} (h : S b = some o) : b < w.heap.size := (hi b o h).lt
theorem Inv.fresh {w : World} {S : St} (hi : Inv w S) : S w.heap.size = none := by
  cases h : S w.heap.size with
  | none => rfl
  | some o => exact absurd (hi.lt h) (Nat.lt_irrefl _)
theorem Inv.drew {w : World} {S : St} (hi : Inv w S) : Inv w.drew S := fun b o h =>
  OwnOk.mono (w := w) (S := S) (Adv.refl w S).drew rfl (hi b o h)

/-- What is owned is let go: it can be read from then on. -/
theorem Adv.del {w : World} {S : St} (b : Nat) : Adv w S w (S.del b) := by
  refine ⟨rfl, rfl, rfl, Nat.le_refl _, fun x hx hn => ⟨?_, rfl⟩, fun x off hx hr => ⟨?_, rfl⟩, fun _ _ _ h => h⟩
  · by_cases e : x = b
    · subst e; exact St.del_same _ _
    · rw [St.del_ne _ _ _ e]; exact hn
  · by_cases e : x = b
    · subst e; simp only [rdOf, St.del_same]
    · simp only [rdOf, St.del_ne _ _ _ e]; exact hr
theorem Inv.del {w : World} {S : St} (hi : Inv w S) (b : Nat) : Inv w (S.del b) := by
  intro x o h
  by_cases e : x = b
  · subst e; rw [St.del_same] at h; cases h
  · rw [St.del_ne _ _ _ e] at h
    exact OwnOk.mono (Adv.del b) rfl (hi x o h)
/-- All that S' has beyond S is let go at once. -/
theorem Adv.shrink {w : World} {S S' : St} (h : St.le S S') : Adv w S' w S := by
  refine ⟨rfl, rfl, rfl, Nat.le_refl _, fun x hx hn => ⟨?_, rfl⟩, fun x off hx hr => ⟨?_, rfl⟩, fun _ _ _ h => h⟩
  · cases e : S x with
    | none => rfl
    | some o => rw [h x o e] at hn; cases hn
  · cases e : S x with
    | none => simp only [rdOf, e]
    | some o => simp only [rdOf, e]; simp only [rdOf, h x o e] at hr; exact hr
theorem Inv.shrink {w : World} {S S' : St} (hi : Inv w S') (h : St.le S S') : Inv w S := fun x o e =>
  OwnOk.mono (Adv.shrink h) rfl (hi x o (h x o e))

end Go.Proofs.YtdlgedpmbeafdaaGreatDoor.Aw

set_option linter.unusedVariables false
namespace Go.Proofs.YtdlgedpmbeafdaaGreatDoor.Aw
open Go Go.RowKit

/-! ### Types -/
inductive TK where
  | int (k : IntKind) | bool | str | slice (e : TypeId) | ptr (e : TypeId) | strct (fs : List (Nat × TypeId)) | array (n : Nat) (e : TypeId) | iface (plain : Bool) | fn | map (k e : TypeId) | other
structure TI where
  size : Nat
  bytes : Nat
  zero : Value
  kind : TK
def TI.none : TI := ⟨0, 0, .nilIface, .other⟩
def kindOf : TypeDesc → TK
  | .int k => .int k
  | .bool => .bool
  | .string => .str
  | .slice e => .slice e
  | .pointer e => .ptr e
  | .struct fa => .strct (fa.toList.map fun f => (f.offset, f.type))
  | .array n e => .array n e
  | .interface ms => .iface ms.isEmpty
  | .func .. => .fn
  | .map k e => .map k e
  | _ => .other
def TI.agg (ti : TI) : Bool := match ti.kind with | .strct _ | .array .. => true | _ => false
def TIok (P : Program) (t : TypeId) (ti : TI) : Prop :=
  (P.info? t).map (fun i => (i.size, i.bytes, i.zero)) = some (ti.size, ti.bytes, some ti.zero) ∧ (P.underlying t).map kindOf = some ti.kind ∧
  ti.zero.cells.size = ti.size ∧ ti.zero.cells.toList.all Value.oneCell' = true

/-- What a call of yield comes to, within the function that is ranged over: the loop's record; arguments, store, how it goes on. -/
structure YSpec where
  l : Nat
  spec : List AV → St → (Bool → St → Prop) → Prop
structure Cx where
  T : TypeId → TI
  G : Nat → Option (List AV)
  E : TypeId → Bool
  Y : Option YSpec := none
  inR : Bool := false
def Cx.call (C : Cx) : Cx := ⟨C.T, C.G, C.E, C.Y, false⟩
def Cx.round (C : Cx) : Cx := ⟨C.T, C.G, C.E, C.Y, true⟩
def Cx.withY (C : Cx) (y : YSpec) : Cx := ⟨C.T, C.G, C.E, some y, false⟩
def Cx.noY (C : Cx) : Cx := ⟨C.T, C.G, C.E, none, false⟩
/-- A struct whose values are compared field by field, and by nothing else. -/
def EqOkB (P : Program) (t : TypeId) : Bool :=
  !P.stoodInHeld t && !P.eqGuardType P.depth t && (match P.underlying t with
    | some (.struct fa) => fa.toList.all fun f => f.name != "_"
    | _ => false)
def TyOk (P : Program) (C : Cx) : Prop := (∀ t, TIok P t (C.T t) ∨ C.T t = TI.none) ∧ ∀ t, C.E t = true → EqOkB P t = true
def GlobOk (C : Cx) (w : World) (S : St) : Prop := ∀ g xs, C.G g = some xs → S g = none ∧ g < w.heap.size ∧ RelAt w (rdOf S) g 0 xs ∧ ∃ e, w.shape? g = some (e, xs.length)
def Good (C : Cx) (w : World) (S : St) : Prop := Inv w S ∧ GlobOk C w S

/-! ### Values -/
def ofV0 : Value → AV
  | .int k n => .int k n
  | .bool b => .bool b
  | .string s => .str s
  | .pointer none => .nilp
  | .slice none 0 0 => .nils
  | .nilIface => .nili
  | .nilFunc => .nilf
  | .map none => .nilm
  | v => .raw v
def ofV : Value → AV
  | .agg cs => if cs.toList.all Value.oneCell' then .ag (cs.toList.map ofV0) else .raw (.agg cs)
  | v => ofV0 v
def scal : AV → Bool
  | .ag _ | .tu _ | .raw _ | .top => false
  | _ => true
def cellsOf : AV → List AV
  | .ag xs => xs
  | x => [x]
def okCells : AV → Bool
  | .ag _ => true
  | x => scal x
def setRange (cells : List AV) (off : Nat) : List AV → List AV
  | [] => cells
  | x :: xs => setRange (cells.set off x) (off + 1) xs
def aFill (place : Nat → Option (Nat × Nat)) (cells : List AV) : List (Nat × AV) → Option (List AV)
  | [] => some cells
  | (i, x) :: r =>
    match place i with
    | none => none
    | some (off, size) => bif okCells x && (Nat.beq (cellsOf x).length size && Nat.ble (off + size) cells.length) then aFill place (setRange cells off (cellsOf x)) r else none
def byteAt (s : ByteArray) (i : Nat) : Int := ((s.data.toList.getD i 0).toNat : Int)
def mulL (k : Nat) (xs : List AV) : Nat → List AV
  | 0 => []
  | n + 1 => xs ++ mulL k xs n
def rowsOf (k : Nat) (cells : List AV) : Nat → List (List AV)
  | 0 => []
  | n + 1 => cells.take k :: rowsOf k (cells.drop k) n

abbrev Env := List (Nat × AV)
def look (t : Nat) : Env → AV
  | [] => .top
  | (s, x) :: r => bif Nat.beq s t then x else look t r
def put (d : Option Tmp) (x : AV) (env : Env) : Env :=
  match d with
  | some d => (d, x) :: env
  | none => env
def putK (d : Option Tmp) (x : AV) (env : Env) (K : Env → Prop) : Prop :=
  match d with
  | some d => K ((d, x) :: env)
  | none => K env
def ev (C : Cx) (env : Env) : Operand → AV
  | .tmp t => look t env
  | .const v => ofV v
  | .global g => match C.G g with | some xs => .imm xs | none => .raw (.pointer (some ⟨g, 0, none⟩))
  | .func f => .fn (.func f) [] []

/-- A value is brought to its form before one goes on. -/
def force (x : AV) (K : AV → Prop) : Prop :=
  match x with
  | .int k n => K (.int k n)
  | .bool b => K (.bool b)
  | .str s => K (.str s)
  | .nilp => K .nilp
  | .ref b o => K (.ref b o)
  | .imm xs => K (.imm xs)
  | .nils => K .nils
  | .sl sh k es => K (.sl sh k es)
  | .arr b o n c => K (.arr b o n c)
  | .ag xs => K (.ag xs)
  | .tu xs => K (.tu xs)
  | .nilf => K .nilf
  | .fn f a b => K (.fn f a b)
  | .nili => K .nili
  | .ifc t y => K (.ifc t y)
  | .nilm => K .nilm
  | .mp r => K (.mp r)
  | .raw v => K (.raw v)
  | .top => K .top
def forceL : List AV → (List AV → Prop) → Prop
  | [], K => K []
  | x :: xs, K => force x fun y => forceL xs fun ys => K (y :: ys)
def forceR : List (List AV) → (List (List AV) → Prop) → Prop
  | [], K => K []
  | r :: rs, K => forceL r fun r' => forceR rs fun rs' => K (r' :: rs')
def split (b : Bool) (Kt Kf : Prop) : Prop := match b with | true => Kt | false => Kf

inductive Out where
  | ret (x : AV)
  | pan (x : AV)
def OutRel (w : World) (S : St) : Out → Ending → Prop
  | .ret x, .returned v => Rel w (rdOf S) x v
  | .pan x, .panicked chain => ∃ v, chain = [{ v, recovered := false }] ∧ Rel w (rdOf S) x v
  | _, _ => False

/-- The calls of yield do as C says, from w and S on. -/
def YOk (P : Program) (C : Cx) (w₀ : World) (S₀ : St) : Prop := ∀ y, C.Y = some y → ∀ (xs : List AV) (S : St) (K : Bool → St → Prop), y.spec xs S K → ∀ (w : World) (vs : Array Value) (m : Nat), Adv w₀ S₀ w S → Good C w S → RelL w (rdOf S) xs vs.toList →
  YieldAt Fence.wide m P y.l vs w fun e w' => ∃ b S', e = .returned (.bool b) ∧ Good C w' S' ∧ Adv w S w' S' ∧ K b S'
theorem YOk.mono {P : Program} {C : Cx} {w₀ w₁ : World} {S₀ S₁ : St} (h : YOk P C w₀ S₀) (ha : Adv w₀ S₀ w₁ S₁) : YOk P C w₁ S₁ := fun y hy xs S K hs w vs m hb hg hr => h y hy xs S K hs w vs m (ha.trans hb) hg hr
theorem YOk.none {P : Program} {C : Cx} (h : C.Y = none) (w₀ : World) (S₀ : St) : YOk P C w₀ S₀ := fun y hy => by rw [h] at hy; cases hy
/-- A call goes so: a body is entered, or the model answers at once. -/
def Goes (P : Program) (f : FuncId) (vs : Array Value) (w : World) (R : Ending → World → Prop) : Prop :=
  ((callFunc f vs).run P w = .ok (.enter f vs) w ∧ Calls P f vs w R) ∨ ∃ v w', (callFunc f vs).run P w = .ok (.value v) w' ∧ R (.returned v) w'
theorem Goes.mono {P : Program} {f : FuncId} {vs : Array Value} {w : World} {R R' : Ending → World → Prop} (h : Goes P f vs w R) (hr : ∀ e w', R e w' → R' e w') : Goes P f vs w R' := by
  rcases h with ⟨h1, h2⟩ | ⟨v, w', h1, h2⟩
  · exact .inl ⟨h1, h2.mono hr⟩
  · exact .inr ⟨v, w', h1, hr _ _ h2⟩
/-- THE CONTRACT OF A FUNCTION in these words. -/
structure Triple (P : Program) (C : Cx) (f : FuncId) (args : List AV) (S : St) (Q : Out → St → Prop) : Prop where
  mk ::
  out : ∀ (w : World) (vs : Array Value), YOk P C w S → Good C w S → RelL w (rdOf S) args vs.toList →
    Goes P f vs w fun e w' => ∃ o S', OutRel w' S' o e ∧ Good C w' S' ∧ Adv w S w' S' ∧ Q o S'
/-- The same of a function whose body is entered. -/
structure TripleE (P : Program) (C : Cx) (f : FuncId) (args : List AV) (S : St) (Q : Out → St → Prop) : Prop where
  mk ::
  enter : ∀ (vs : Array Value) (w : World), (callFunc f vs).run P w = .ok (.enter f vs) w
  out : ∀ (w : World) (vs : Array Value), YOk P C w S → Good C w S → RelL w (rdOf S) args vs.toList →
    Calls P f vs w fun e w' => ∃ o S', OutRel w' S' o e ∧ Good C w' S' ∧ Adv w S w' S' ∧ Q o S'
theorem TripleE.triple {P : Program} {C : Cx} {f : FuncId} {args : List AV} {S : St} {Q : Out → St → Prop} (h : TripleE P C f args S Q) : Triple P C f args S Q :=
  ⟨fun w vs hY hg hr => .inl ⟨h.enter vs w, h.out w vs hY hg hr⟩⟩

/-! ### Operations -/
section
variable (P : Program) (C : Cx)
/-- A condition that the text itself decides. -/
def when (b : Bool) (K : Prop) : Prop := match b with | true => K | false => False
def known (t : TypeId) : Bool := match (C.T t).kind with | .other => false | _ => true

def aIntOp (op : BinOp) (k : IntKind) (a b : Int) (K : AV → Prop) : Prop :=
  match op with
  | .add => K (.int k (k.wrap (a + b)))
  | .sub => K (.int k (k.wrap (a - b)))
  | .mul => K (.int k (k.wrap (a * b)))
  | .quo => b ≠ 0 ∧ K (.int k (k.wrap (a.tdiv b)))
  | .rem => b ≠ 0 ∧ K (.int k (a.tmod b))
  | .eql => K (.bool (a == b))
  | .neq => K (.bool (a != b))
  | .lss => K (.bool (decide (a < b)))
  | .leq => K (.bool (decide (a ≤ b)))
  | .gtr => K (.bool (decide (a > b)))
  | .geq => K (.bool (decide (a ≥ b)))
  | _ => False
def aStrOp (op : BinOp) (a b : ByteArray) (K : AV → Prop) : Prop :=
  match op with
  | .add => a.size + b.size ≤ 9223372036854775807 ∧ K (.str (a ++ b))
  | .eql => K (.bool (decide (a = b)))
  | .neq => K (.bool (!decide (a = b)))
  | _ => False
/-- '==' of two values: nil against something, bools, aggregates cell by cell. -/
def flatEq (k : TK) (x y : AV) : Option Bool :=
  match k, x, y with
  | .int k, .int k1 a, .int k2 b => (match decide (k1 = k2) with | true => some (a == b) | false => none)
  | .str, .str a, .str b => some (decide (a = b))
  | .bool, .bool a, .bool b => some (a == b)
  | _, _, _ => none
def aEqF (i : Nat) : List (Nat × TypeId) → List AV → List AV → Option Bool
  | [], [], [] => some true
  | (off, ft) :: fs, x :: xs, y :: ys => (match Nat.beq off i, flatEq (C.T ft).kind x y with
      | true, some a => (match aEqF (i + 1) fs xs ys with | some b => some (a && b) | none => none)
      | _, _ => none)
  | _, _, _ => none
def aEq (xt : TypeId) (a b : AV) : Option Bool :=
  match (C.T xt).kind, a, b with
  | .strct fs, .ag xs, .ag ys => (match C.E xt with | true => aEqF C 0 fs xs ys | false => none)
  | .bool, .bool a, .bool b => some (a == b)
  | .ptr _, .nilp, .nilp => some true
  | .ptr _, .nilp, .ref .. => some false
  | .ptr _, .ref .., .nilp => some false
  | .ptr _, .nilp, .imm .. => some false
  | .ptr _, .imm .., .nilp => some false
  | .slice _, .nils, .nils => some true
  | .slice _, .arr .., .nils => some false
  | .slice _, .sl .nn .., .nils => some false
  | .slice _, .sl .full .., .nils => some false
  | .slice _, .sl (.own _) .., .nils => some false
  | .fn, .nilf, .nilf => some true
  | .fn, .fn .., .nilf => some false
  | .iface _, .nili, .ifc .. => some false
  | .iface _, .ifc .., .nili => some false
  | _, _, _ => none
def isConst : Operand → Bool | .const _ => true | _ => false
def aBin (op : BinOp) (xt : TypeId) (x y : Operand) (a b : AV) (K : AV → Prop) : Prop :=
  match a, b with
  | .int k m, .int k' n => (match op with
      | .shl => 0 ≤ n ∧ K (.int k (k.wrap (m * 2 ^ (min n.toNat k.bits))))
      | .shr => 0 ≤ n ∧ K (.int k (m.fdiv (2 ^ (min n.toNat k.bits))))
      | _ => when (decide (k = k')) (aIntOp op k m n K))
  | .str s, .str t => aStrOp op s t K
  | .nili, .nili => (match (C.T xt).kind, op with
      | .iface _, .eql => when (isConst x || isConst y) (K (.bool true))
      | .iface _, .neq => when (isConst x || isConst y) (K (.bool false))
      | _, _ => False)
  | a, b => (match op with
      | .eql => (match aEq C xt a b with | some r => K (.bool r) | none => False)
      | .neq => (match aEq C xt a b with | some r => K (.bool (!r)) | none => False)
      | _ => False)
def aUn (op : UnOp) (x : AV) (K : AV → Prop) : Prop :=
  match op, x with
  | .neg, .int k n => K (.int k (k.wrap (0 - n)))
  | .not, .bool b => K (.bool (!b))
  | _, _ => False
def rowsB (s : ByteArray) : List (List AV) := s.data.toList.map fun b => [.int .u8 (b.toNat : Int)]
def isU8 (t : TypeId) : Bool := match (C.T t).kind with | .int .u8 => Nat.beq 1 (C.T t).size | _ => false
def aConv (src dst : TypeId) (x : AV) (S : St) (K : AV → Prop) : Prop :=
  match (C.T src).kind, (C.T dst).kind, x with
  | .int _, .int k, .int _ n => K (.int k (k.wrap n))
  | .str, .str, .str s => K (.str s)
  | .str, .slice te, .str s => when (isU8 C te) (s.size ≤ 140737488355328 ∧ K (.sl .nn 1 (rowsB s)))
  | .slice te, .str, .sl _ k es => when (isU8 C te && Nat.beq k 1) (∃ s, es = rowsB s ∧ K (.str s))
  | .slice te, .str, .nils => when (isU8 C te) (K (.str ByteArray.empty))
  | _, _, _ => False
def aPart (t : TypeId) (xs : List AV) (off : Nat) (K : AV → Prop) : Prop :=
  match (C.T t).agg with
  | true => when (Nat.ble (off + (C.T t).size) xs.length) (forceL ((xs.drop off).take (C.T t).size) fun cs => K (.ag cs))
  | false => (match xs.drop off with | x :: _ => force x K | [] => False)
def aLoad (t : TypeId) (p : AV) (S : St) (K : AV → Prop) : Prop :=
  match p with
  | .imm xs => when (known C t) (aPart C t xs 0 K)
  | .ref b off => when (known C t) (∃ e cells, S b = some (.obj e cells) ∧ aPart C t cells off K)
  | _ => False
def aStore (t : TypeId) (p x : AV) (S : St) (K : St → Prop) : Prop :=
  match p with
  | .ref b off => when (known C t && (okCells x && Nat.beq (cellsOf x).length (C.T t).size)) (∃ e cells, S b = some (.obj e cells) ∧ when (Nat.ble (off + (C.T t).size) cells.length) (forceL (setRange cells off (cellsOf x)) fun cs => K (S.upd b (.obj e cs))))
  | _ => False
def fieldOf (t : TypeId) (f : Nat) : Option (Nat × TypeId) :=
  match (C.T t).kind with
  | .strct fs => fs[f]?
  | _ => none
def aFieldAddr (t : TypeId) (p : AV) (f : Nat) (K : AV → Prop) : Prop :=
  match fieldOf C t f with
  | some (off, ft) => when (known C ft && Nat.blt 0 (C.T ft).size) (match p with
    | .ref b o => K (.ref b (o + off))
    | .imm xs => K (.imm (xs.drop off))
    | _ => False)
  | none => False
def aField (t : TypeId) (x : AV) (f : Nat) (K : AV → Prop) : Prop :=
  match fieldOf C t f, x with
  | some (off, ft), .ag xs => when (known C ft) (aPart C ft xs off K)
  | _, _ => False
def aIndexAddr (t : TypeId) (x i : AV) (K : AV → Prop) : Prop :=
  match (C.T t).kind, x, i with
  | .slice e, .sl sh k es, .int _ n => when (known C e && Nat.beq (C.T e).size k) (∃ r, (0 ≤ n ∧ es[n.toNat]? = some r) ∧ K (.imm r))
  | .slice e, .arr b off m cap, .int _ n => when (known C e) ((0 ≤ n ∧ n < m) ∧ K (.ref b (off + n.toNat * (C.T e).size)))
  | _, _, _ => False
def aIndex (t : TypeId) (x i : AV) (K : AV → Prop) : Prop :=
  match (C.T t).kind, x, i with
  | .str, .str s, .int _ n => (0 ≤ n ∧ n < s.size) ∧ K (.int .u8 (byteAt s n.toNat))
  | _, _, _ => False
def optN (d : Nat) : Option AV → Option Int
  | none => some d
  | some (.int _ n) => some n
  | some _ => none
def aSlice (t : TypeId) (x : AV) (lo hi mx : Option AV) (K : AV → Prop) : Prop :=
  match (C.T t).kind, x, mx with
  | .str, .str s, none => (match optN 0 lo, optN s.size hi with
      | some l, some h => (0 ≤ l ∧ l ≤ h ∧ h ≤ s.size) ∧ K (.str (s.extract l.toNat h.toNat))
      | _, _ => False)
  | .slice e, .sl sh k es, none => when (known C e && Nat.beq (C.T e).size k) (match optN 0 lo, optN es.length hi with
      | some l, some h => (0 ≤ l ∧ l ≤ h ∧ h ≤ es.length) ∧ K (.sl sh.less k ((es.take h.toNat).drop l.toNat))
      | _, _ => False)
  | .slice e, .sl sh k es, some m => when (known C e && Nat.beq (C.T e).size k) (match lo, hi, m with
      | none, some (.int _ 0), .int _ 0 => K (match sh with | .any | .acc _ => .sl .any k [] | _ => .sl .full k [])
      | _, _, _ => False)
  | .slice e, .arr b off n cap, none => when (known C e) (match optN 0 lo, optN n hi with
      | some l, some h => (0 ≤ l ∧ l ≤ h ∧ h ≤ cap) ∧ K (.arr b (bif Nat.beq cap l.toNat then off else off + l.toNat * (C.T e).size) (h.toNat - l.toNat) (cap - l.toNat))
      | _, _ => False)
  | .slice e, .nils, none => when (known C e) (match optN 0 lo, optN 0 hi with
      | some l, some h => (l = 0 ∧ h = 0) ∧ K .nils
      | _, _ => False)
  | .slice e, .nils, some m => when (known C e) (match lo, hi, m with
      | none, some (.int _ 0), .int _ 0 => K .nils
      | _, _, _ => False)
  | _, _, _ => False
def aLen (t : TypeId) (x : AV) (S : St) (K : AV → Prop) : Prop :=
  match (C.T t).kind, x with
  | .str, .str s => K (.int .i64 (s.size : Int))
  | .slice _, .sl _ _ es => ((es.length : Int) ≤ 9223372036854775807 → K (.int .i64 (es.length : Int)))
  | .slice _, .nils => K (.int .i64 0)
  | .slice _, .arr _ _ n _ => K (.int .i64 (n : Int))
  | .map _ _, .nilm => K (.int .i64 0)
  | .map _ _, .mp r => ∃ es, S r = some (.mapo es) ∧ K (.int .i64 (es.length : Int))
  | _, _ => False
/-- A list is grown by what may be nothing. -/
def AccStep (S : St) (b : Nat) (e : TypeId) (k n m : Nat) (b' : Nat) (S' : St) : Prop :=
  (m = 0 ∧ b' = b ∧ S' = S) ∨ (0 < m ∧ ∃ S₁, (n = 0 → S₁ = S) ∧ (0 < n → S₁ = S.del b) ∧ S₁ b' = none ∧ S' = S₁.upd b' (.tip e k (n + m)))
def aGrow (e : TypeId) (s : AV) (new : List (List AV)) (S : St) (K : AV → St → Prop) : Prop :=
  when (known C e && Nat.blt 0 (C.T e).bytes) (match s with
    | .nils => new.length * (C.T e).bytes ≤ 140737488355328 ∧ ∀ b S', AccStep S b e (C.T e).size 0 new.length b S' → K (.sl (.acc b) (C.T e).size new) S'
    | .sl (.own b) k es => when (Nat.beq (C.T e).size k) ((S b = some (.tip e (C.T e).size es.length) ∧ (es.length + new.length) * (C.T e).bytes ≤ 140737488355328) ∧
        ∀ b', (S.del b) b' = none → K (.sl (.own b') (C.T e).size (es ++ new)) ((S.del b).upd b' (.tip e (C.T e).size (es.length + new.length))))
    | .sl (.acc b) k es => when (Nat.beq (C.T e).size k) (((0 < es.length → S b = some (.tip e (C.T e).size es.length)) ∧ (es.length + new.length) * (C.T e).bytes ≤ 140737488355328) ∧
        ∀ b' S', AccStep S b e (C.T e).size es.length new.length b' S' → K (.sl (.acc b') (C.T e).size (es ++ new)) S')
    | _ => False)
/-- What else an append may take. -/
def aSrc (e tx : TypeId) (x : AV) (S : St) (K : List (List AV) → Prop) : Prop :=
  match (C.T tx).kind, x with
  | .str, .str s => when (Nat.beq 1 (C.T e).size) (K (rowsB s))
  | .slice e', .arr b off n cap => when (Nat.beq e' e) (∃ te cells, S b = some (.obj te cells) ∧ off + n * (C.T e').size ≤ cells.length ∧ K (rowsOf (C.T e').size ((cells.drop off).take (n * (C.T e').size)) n))
  | _, _ => False
def other : AV → Bool | .str _ | .arr .. => true | _ => false
/-- append(s, x): what is appended, as rows. -/
def aAppend (t : TypeId) (s x : AV) (S : St) (K : AV → St → Prop) : Prop :=
  match (C.T t).kind with
  | .slice e => when (known C e && (Nat.blt 0 (C.T e).size && Nat.blt 0 (C.T e).bytes)) (match x with
    | .nils => (match s with
      | .nils => K .nils S
      | .sl sh k es => K (.sl sh k es) S
      | _ => False)
    | .sl _ k' new => when (Nat.beq (C.T e).size k') (match s with
      | .nils => new.length * (C.T e).bytes ≤ 140737488355328 ∧ (match new with
        | [] => K .nils S
        | r :: rs => ∀ b, S b = none → K (.sl (.own b) k' (r :: rs)) (S.upd b (.tip e k' (r :: rs).length)))
      | .sl (.own b) k es => when (Nat.beq k k') ((S b = some (.tip e k es.length) ∧ (es.length + new.length) * (C.T e).bytes ≤ 140737488355328) ∧
          ∀ b', (S.del b) b' = none → K (.sl (.own b') k (es ++ new)) ((S.del b).upd b' (.tip e k (es.length + new.length))))
      | .sl (.acc b) k es => when (Nat.beq k k') (((es ≠ [] → S b = some (.tip e k es.length)) ∧ (es.length + new.length) * (C.T e).bytes ≤ 140737488355328) ∧ (match new with
        | [] => K (.sl (.acc b) k es) S
        | r :: rs => ∀ S₁, (es = [] → S₁ = S) → (es ≠ [] → S₁ = S.del b) → ∀ b', S₁ b' = none → K (.sl (.acc b') k (es ++ (r :: rs))) (S₁.upd b' (.tip e k (es.length + (r :: rs).length)))))
      | .sl .full k es => when (Nat.beq k k') ((es.length + new.length) * (C.T e).bytes ≤ 140737488355328 ∧ (match new with
        | [] => K (.sl .full k es) S
        | r :: rs => ∀ b, S b = none → K (.sl (.own b) k (es ++ (r :: rs))) (S.upd b (.tip e k (es.length + (r :: rs).length)))))
      | _ => False)
    | _ => False)
  | _ => False
def aMM (mx : Bool) : AV → List AV → (AV → Prop) → Prop
  | x, [], K => force x K
  | .int k a, .int _ b :: r, K => aMM mx (.int k (match mx with | true => if b > a then b else a | false => if b < a then b else a)) r K
  | _, _, _ => False
def aBuiltin (b : Builtin) (ts : List TypeId) (xs : List AV) (S : St) (K : AV → St → Prop) : Prop :=
  match b, ts, xs with
  | .len, [t], [x] => aLen C t x S fun y => K y S
  | .append, [t, t'], [s, x] => (match other x with
      | true => (match (C.T t).kind with | .slice e => aSrc C e t' x S fun new => aGrow C e s new S K | _ => False)
      | false => when (Nat.beq t t') (aAppend C t s x S K))
  | .cap, [t], [x] => (match (C.T t).kind, x with | .slice _, .arr _ _ _ c => K (.int .i64 (c : Int)) S | _, _ => False)
  | .max, _, x :: r => aMM true x r fun y => K y S
  | .min, _, x :: r => aMM false x r fun y => K y S
  | _, _, _ => False
def aCall (f : AV) (args : List AV) (S : St) (K : AV → St → Prop) (Qp : AV → St → Prop) : Prop :=
  match f with
  | .fn (.func g) first cap => forceL (first ++ args ++ cap) fun l => Triple P C.call g l S fun o S' => match o with | .ret x => K x S' | .pan x => Qp x S'
  | _ => False
def keyEq : AV → AV → Option Bool
  | .int k a, .int k' b => (match decide (k = k') with | true => some (a == b) | false => none)
  | .str a, .str b => some (decide (a = b))
  | _, _ => none
/-- A map's entry is sought. -/
def aFindK (k : AV) : List (AV × AV) → (AV → Prop) → Prop → Prop
  | [], K, Kn => Kn
  | (k0, v0) :: r, K, Kn => (match keyEq k k0 with
      | some b => split b (K v0) (aFindK k r K Kn)
      | none => False)
/-- A map's entry is set. -/
def aSetK (k v : AV) : List (AV × AV) → (List (AV × AV) → Prop) → Prop
  | [], K => K [(k, v)]
  | (k0, v0) :: r, K => (match keyEq k k0 with
      | some b => split b (K ((k, v) :: r)) (aSetK k v r fun es => K ((k0, v0) :: es))
      | none => False)
def keyOk (kt : TypeId) (k : AV) : Bool :=
  match (C.T kt).kind, k with
  | .int k, .int k' _ => decide (k = k')
  | .str, .str _ => true
  | _, _ => false
/-- 's == nil' of a slice that may be nil. -/
def nilTest (op : BinOp) (t : TypeId) (a b : AV) : Option (Bool × List (List AV)) :=
  match (C.T t).kind, a, b with
  | .slice _, .sl .any _ es, .nils => (match op with | .eql => some (true, es) | .neq => some (false, es) | _ => none)
  | .slice _, .sl (.acc _) _ es, .nils => (match op with | .eql => some (true, es) | .neq => some (false, es) | _ => none)
  | _, _, _ => none
/-- One operation: K goes on with its value, Qp with a panic. -/
def aOpE (o : Oper) (e : Operand → AV) (S : St) (K : AV → St → Prop) (Qp : AV → St → Prop) : Prop :=
  match o.op with
  | .move x | .assign x => force (e x) fun y => K y S
  | .pick c a b => (match e c with
      | .bool t => split t (force (e a) fun y => K y S) (force (e b) fun y => K y S)
      | _ => False)
  | .alloc t => when (known C t) <| ∀ b, S b = none → forceL (cellsOf (ofV (C.T t).zero)) fun cs => K (.ref b 0) (S.upd b (.obj t cs))
  | .box t x => force (e x) fun y => when (okCells y) <| ∀ b, S b = none → forceL (cellsOf y) fun cs => K (.ref b 0) (S.upd b (.obj t cs))
  | .build t parts => (match (C.T t).kind with
      | .strct fs => (match aFill (fun i => (fs[i]?).map fun f => (f.1, (C.T f.2).size)) (cellsOf (ofV (C.T t).zero)) (parts.toList.map fun p => (p.1, e p.2)) with
        | some cells => when (fs.all fun f => known C f.2) (forceL cells fun cs => K (.ag cs) S)
        | none => False)
      | _ => False)
  | .buildSlice t n parts => (match (C.T t).kind with
      | .slice te => when (known C te && (Nat.ble (n * (C.T te).size) 4096 && Nat.blt 0 (C.T te).size)) (match aFill (fun i => some (i * (C.T te).size, (C.T te).size)) (mulL 0 (cellsOf (ofV (C.T te).zero)) n) (parts.toList.map fun p => (p.1, e p.2)) with
        | some cells => ∀ b, S b = none → forceR (rowsOf (C.T te).size cells n) fun rs => K (.sl (.own b) (C.T te).size rs) (S.upd b (.tip te (C.T te).size n))
        | none => False)
      | _ => False)
  | .load t p => aLoad C t (e p) S fun y => K y S
  | .store t p x => force (e x) fun y => aStore C t (e p) y S fun S' => K .top S'
  | .nilCheck x => (match e x with
      | .ref b o => K (.ref b o) S
      | .imm xs => K (.imm xs) S
      | .ifc t y => K (.ifc t y) S
      | .fn (.func f) a b => K (.fn (.func f) a b) S
      | _ => False)
  | .binOp op t x y _ => (match nilTest C op t (e x) (e y) with
      | some (pos, es) => ∀ c : Bool, (es ≠ [] → c = !pos) → K (.bool c) S
      | none => aBin C op t x y (e x) (e y) fun z => K z S)
  | .unOp op _ x => aUn op (e x) fun z => K z S
  | .convert s d x => aConv C s d (e x) S fun z => K z S
  | .makeInterface t x => (match (C.T t).kind with | .iface _ | .other => False | _ => force (e x) fun y => K (.ifc t y) S)
  | .makeFunc f a b => forceL (a.toList.map e) fun xs => forceL (b.toList.map e) fun ys => K (.fn f xs ys) S
  | .slice t x lo hi mx => aSlice C t (e x) (lo.map e) (hi.map e) (mx.map e) fun y => K y S
  | .fieldAddr t p f => aFieldAddr C t (e p) f fun y => K y S
  | .field t x f => aField C t (e x) f fun y => K y S
  | .indexAddr t x i => aIndexAddr C t (e x) (e i) fun y => K y S
  | .index t x i => aIndex C t (e x) (e i) fun y => K y S
  | .extract x i => (match e x with
      | .tu xs => (match xs.drop i with | y :: _ => force y fun z => K z S | [] => False)
      | _ => False)
  | .makeSlice t l c => (match (C.T t).kind, e l, e c with
      | .slice te, .int _ n, .int _ m => when (known C te) ((0 ≤ n ∧ n ≤ m ∧ (C.T te).bytes * m ≤ 140737488355328 ∧ m ≤ 9223372036854775807) ∧
          ∀ b, S b = none → K (.arr b 0 n.toNat m.toNat) (S.upd b (.obj te (mulL 0 (cellsOf (ofV (C.T te).zero)) m.toNat))))
      | _, _, _ => False)
  | .typeAssert x xt asserted ok => (match (C.T asserted).kind with
      | .iface _ | .other => False
      | _ => (match e x, ok with
        | .nili, true => force (ofV (C.T asserted).zero) fun z => K (.tu [z, .bool false]) S
        | .ifc t y, true => (match Nat.beq t asserted with
            | true => force y fun y => K (.tu [y, .bool true]) S
            | false => force (ofV (C.T asserted).zero) fun z => K (.tu [z, .bool false]) S)
        | .ifc t y, false => when (Nat.beq t asserted) (force y fun y => K y S)
        | _, _ => False))
  | .makeMap t none => (match (C.T t).kind with
      | .map _ _ => ∀ r, S r = none → K (.mp r) (S.upd r (.mapo []))
      | _ => False)
  | .insert t m k v | .mapUpdate t m k v => (match (C.T t).kind, e m with
      | .map kt _, .mp r => force (e k) fun kk => force (e v) fun vv => when (keyOk C kt kk) (∃ es, S r = some (.mapo es) ∧ aSetK kk vv es fun es' => K .top (S.upd r (.mapo es')))
      | _, _ => False)
  | .lookup t m k ok => (match (C.T t).kind, e m with
      | .map kt et, .mp r => force (e k) fun kk => when (keyOk C kt kk && known C et) (∃ es, S r = some (.mapo es) ∧ aFindK kk es
          (fun v => K (match ok with | true => .tu [v, .bool true] | false => v) S)
          (force (ofV (C.T et).zero) fun z => K (match ok with | true => .tu [z, .bool false] | false => z) S))
      | .map kt et, .nilm => force (e k) fun kk => when (keyOk C kt kk && known C et) (force (ofV (C.T et).zero) fun z => K (match ok with | true => .tu [z, .bool false] | false => z) S)
      | _, _ => False)
  | .range t x => (match (C.T t).kind, e x with
      | .str, .str s => ∀ b, S b = none → K (.ref b 0) (S.upd b (.siter s 0))
      | .map _ _, .mp r => ∃ es, S r = some (.mapo es) ∧ ∀ b, (S.del r) b = none → K (.ref b 0) ((S.del r).upd b (.miter none es))
      | .map _ _, .nilm => ∀ b, S b = none → K (.ref b 0) (S.upd b (.miter none []))
      | _, _ => False)
  | .next x true => (match e x with
      | .ref b 0 => ∃ s pos, S b = some (.siter s pos) ∧ split (decide (pos < s.size))
          (K (.tu [.bool true, .int .i64 (pos : Int), .int .i32 (Utf8.decode s pos).1]) (S.upd b (.siter s (pos + (Utf8.decode s pos).2))))
          (K (.tu [.bool false]) S)
      | _ => False)
  | .next x false => (match e x with
      | .ref b 0 => ∃ cur left, S b = some (.miter cur left) ∧ (left = [] → K (.tu [.bool false]) S) ∧ ∀ pre kv post, left = pre ++ kv :: post → K (.tu [.bool true, kv.1, kv.2]) (S.upd b (.miter (some kv) (pre ++ post)))
      | _ => False)
  | .entry x => (match e x with
      | .ref b 0 => ∃ kv left, S b = some (.miter (some kv) left) ∧ K (.tu [kv.1, kv.2]) S
      | _ => False)
  | .panic x => (match e x with
      | .ifc t y => Qp (.ifc t y) S
      | _ => False)
  | .call c => (match c.callee with
      | .builtin b => aBuiltin C b c.argTypes.toList (c.args.toList.map e) S K
      | .value f => aCall P C (e f) (c.args.toList.map e) S K Qp
      | .invoke _ _ => False)
  | _ => False
/-- append onto a row that may be written: in place, where there is room. -/
def aAppendArr (t t' : TypeId) (b n cap : Nat) (x : AV) (S : St) (K : AV → St → Prop) : Prop :=
  match (C.T t).kind, x with
  | .slice e, .sl _ k new => when (known C e && (Nat.blt 0 (C.T e).size && (Nat.blt 0 (C.T e).bytes && (Nat.beq t t' && Nat.beq (C.T e).size k))))
      (∃ cells, S b = some (.obj e cells) ∧ (n ≤ cap ∧ cap * k ≤ cells.length ∧ cap ≤ maxLen ∧ (n + new.length) * (C.T e).bytes ≤ 140737488355328) ∧
        split (decide (n + new.length ≤ cap))
          (K (.arr b 0 (n + new.length) cap) (S.upd b (.obj e (setRange cells (n * k) new.flatten))))
          (∀ b' cap', S b' = none → n + new.length ≤ cap' → cap' ≤ maxLen → K (.arr b' 0 (n + new.length) cap') (S.upd b' (.obj e (cells.take (n * k) ++ (new.flatten ++ mulL 0 (cellsOf (ofV (C.T e).zero)) (cap' - (n + new.length))))))))
  | _, _ => False
def aOp (o : Oper) (env : Env) (S : St) (K : AV → St → Prop) (Qp : AV → St → Prop) : Prop :=
  match o.op with
  | .call c => (match c.callee, c.argTypes.toList, c.args.toList with
      | .builtin .append, [t, t'], [s, x] => (match ev C env s with
          | .arr b 0 n cap => aAppendArr C t t' b n cap (ev C env x) S K
          | _ => aOpE P C o (ev C env) S K Qp)
      | .value f, _, _ => (match ev C env f with
          | .fn (.yield l) [] [] => (match C.Y with
              | some y => l = y.l ∧ forceL (c.args.toList.map (ev C env)) fun xs => y.spec xs S fun b S' => K (.bool b) S'
              | none => False)
          | _ => aOpE P C o (ev C env) S K Qp)
      | _, _, _ => aOpE P C o (ev C env) S K Qp)
  | _ => aOpE P C o (ev C env) S K Qp

/-- The operations of a region, in the text's order. -/
def aOps (ops : List Oper) : List Oper → Env → St → (Env → St → Prop) → (AV → St → Prop) → Prop
  | [], env, S, K, Qp => K env S
  | o :: r, env, S, K, Qp =>
    match o.guard with
    | none => aOp P C o env S (fun x S' => putK o.dst x env fun env' => aOps ops r env' S' K Qp) Qp
    | some (j, want) =>
      match (ops[j]?).bind (·.dst) with
      | some d => (match look d env with
        | .bool b => split b
            (match want with
              | true => aOp P C o ((d, .bool true) :: env) S (fun x S' => putK o.dst x ((d, .bool true) :: env) fun env' => aOps ops r env' S' K Qp) Qp
              | false => putK o.dst (.tu []) ((d, .bool true) :: env) fun env' => aOps ops r env' S K Qp)
            (match want with
              | false => aOp P C o ((d, .bool false) :: env) S (fun x S' => putK o.dst x ((d, .bool false) :: env) fun env' => aOps ops r env' S' K Qp) Qp
              | true => putK o.dst (.tu []) ((d, .bool false) :: env) fun env' => aOps ops r env' S K Qp)
        | .tu [] => putK o.dst (.tu []) env fun env' => aOps ops r env' S K Qp
        | _ => False)
      | none => False

/-! ### A region that draws its order -/
def aLenQ (t : TypeId) (x : AV) (K : AV → Prop) : Prop :=
  match (C.T t).kind, x with
  | .str, .str s => K (.int .i64 (s.size : Int))
  | .slice _, .sl _ _ es => K (.int .i64 (es.length : Int))
  | .slice _, .nils => K (.int .i64 0)
  | .slice _, .arr _ _ n _ => K (.int .i64 (n : Int))
  | _, _ => False
/-- An operation that leaves the store. -/
def aOpQ (o : Oper) (e : Operand → AV) (S : St) (K : AV → Prop) : Prop :=
  match o.op with
  | .call c => (match c.callee, c.argTypes.toList, c.args.toList with
      | .builtin .len, [t], [x] => aLenQ C t (e x) K
      | _, _, _ => False)
  | .binOp op t x y _ => aBin C op t x y (e x) (e y) K
  | .convert s d x => aConv C s d (e x) S K
  | _ => aOpE P C o e S (fun y _ => K y) (fun _ _ => False)
/-- 0: it asks nothing of the store; 1: it reads; 2: it lays something new; 3: any other. -/
def opClass (o : Oper) : Nat :=
  match o.op with
  | .move _ | .assign _ | .pick .. | .build .. | .nilCheck _ | .binOp .. | .unOp .. | .convert .. | .makeInterface .. | .makeFunc .. | .slice .. | .fieldAddr .. | .field .. | .indexAddr .. | .index .. | .extract .. => 0
  | .load .. => 1
  | .alloc _ | .box .. | .buildSlice .. | .makeSlice .. => 2
  | .call c => (match c.callee with
      | .builtin .len => 0
      | .builtin .append => 2
      | _ => 3)
  | _ => 3
/-- 4: a call that leaves the store, as the plan says. -/
def clsOf (qc : List Nat) (i : Nat) (o : Oper) : Nat := bif qc.any (Nat.beq i) then 4 else opClass o
def aCore (c : Nat) (o : Oper) (e : Operand → AV) (S : St) (K : AV → St → Prop) (Qp : AV → St → Prop) : Prop :=
  match c with
  | 0 | 1 => aOpQ P C o e S fun x => K x S
  | 4 => ∃ x, aOpE P C o e S (fun y S' => y = x ∧ S' = S) (fun _ _ => False) ∧ K x S
  | _ => aOpE P C o e S K Qp
def aStep (qc : List Nat) (ops : List Oper) (i : Nat) (env : Env) (S : St) (K : Env → St → Prop) (Qp : AV → St → Prop) : Prop :=
  match ops[i]? with
  | none => False
  | some o =>
    match o.guard with
    | none => aCore P C (clsOf qc i o) o (ev C env) S (fun x S' => putK o.dst x env fun env' => K env' S') Qp
    | some (j, want) =>
      match (ops[j]?).bind (·.dst) with
      | some d => (match look d env with
        | .bool b => split b
            (match want with
              | true => aCore P C (clsOf qc i o) o (ev C env) S (fun x S' => putK o.dst x env fun env' => K env' S') Qp
              | false => putK o.dst (.tu []) env fun env' => K env' S)
            (match want with
              | false => aCore P C (clsOf qc i o) o (ev C env) S (fun x S' => putK o.dst x env fun env' => K env' S') Qp
              | true => putK o.dst (.tu []) env fun env' => K env' S)
        | .tu [] => putK o.dst (.tu []) env fun env' => K env' S
        | _ => False)
      | none => False
/-- An order to walk in: 'free i': i may be taken first, whatever else is ready; 'one': one of the ways, and the others. -/
inductive Plan where
  | done
  | free (i : Nat) (p : Plan)
  | one (i : Nat) (p q : Plan)
  | none
def aPlan (qc : List Nat) (ops : List Oper) : Plan → Env → St → (Env → St → Prop) → (AV → St → Prop) → Prop
  | .done, env, S, K, Qp => K env S
  | .free i p, env, S, K, Qp => aStep P C qc ops i env S (fun env' S' => aPlan qc ops p env' S' K Qp) Qp
  | .one i p .none, env, S, K, Qp => aStep P C qc ops i env S (fun env' S' => aPlan qc ops p env' S' K Qp) Qp
  | .one i p q, env, S, K, Qp => aStep P C qc ops i env S (fun env' S' => aPlan qc ops p env' S' K Qp) Qp ∧ aPlan qc ops q env S K Qp
  | .none, env, S, K, Qp => True
def mixes (ci cj : Nat) : Bool :=
  match ci with
  | 0 => true
  | 1 => Nat.ble cj 2 || Nat.beq cj 4
  | 4 => Nat.ble cj 1 || Nat.beq cj 4
  | _ => false
/-- What must wait for the operation i, by way of others too. -/
def depsL (ops : Array Oper) (i : Nat) : List Nat :=
  (List.range ops.size).foldl (fun D j => bif (match ops[j]? with | some oj => oj.after.any fun e => Region.binds .any e && (Nat.beq e.on i || D.any (Nat.beq e.on)) | none => false) then j :: D else D) []
def freeB (qc : List Nat) (ops : Array Oper) (listed : Array Bool) (i : Nat) : Bool :=
  match ops[i]? with
  | none => false
  | some oi =>
    let D := depsL ops i
    (D.all fun j => match ops[j]? with
      | some oj => !listed.getD j true && oj.after.any fun e => Region.binds .any e && (Nat.beq e.on i || D.any (Nat.beq e.on))
      | none => false) &&
    (List.range ops.size).all fun j =>
      Nat.beq j i || listed.getD j true || D.any (Nat.beq j) ||
      match ops[j]? with
      | none => true
      | some oj => oi.apart ops oj && mixes (clsOf qc i oi) (clsOf qc j oj)
def readyL (ops : Array Oper) (listed : Array Bool) : List Nat :=
  (List.range ops.size).filter fun i => !listed.getD i true && ((ops[i]?).map (·.after.all fun e => !Region.binds .any e || listed.getD e.on false)).getD false
def Plan.quietAt (qc : List Nat) (ops : Array Oper) (i : Nat) : Bool :=
  match ops[i]? with
  | some o => Nat.ble (clsOf qc i o) 1 || Nat.beq (clsOf qc i o) 4
  | _ => false
def Plan.ok (qc : List Nat) (ops : Array Oper) : Plan → Nat → Array Bool → List Nat → Bool
  | .done, _, l, _ => (readyL ops l).isEmpty
  | .free i p, n + 1, l, _ => (readyL ops l).contains i && freeB qc ops l i && Plan.quietAt qc ops i && Plan.ok qc ops p n (l.setIfInBounds i true) []
  | .one i p q, n + 1, l, acc => Plan.ok qc ops p n (l.setIfInBounds i true) [] && Plan.ok qc ops q (n + 1) l (i :: acc)
  | .none, _ + 1, l, acc => !(readyL ops l).isEmpty && (readyL ops l).all acc.contains
  | _, _, _, _ => false
/-- The text's own order. -/
def Plan.lin (n : Nat) : Nat → Plan
  | 0 => .done
  | m + 1 => .free (n - (m + 1)) (Plan.lin n m)

/-! ### Code -/
inductive AExit where
  | normal
  | exit (id : Nat)
  | ret
  | panic (x : AV)

/-- What a loop's head asks of a value: less may be said there. -/
def AV.le : AV → AV → Prop
  | _, .top => True
  | .sl _ k es, .sl .any k' es' => k = k' ∧ es = es'
  | .sl sh k es, .sl .nn k' es' => sh.mayNil = false ∧ k = k' ∧ es = es'
  | .nils, .sl .any _ es => es = []
  | .nils, .sl (.acc _) _ es => es = []
  | .sl (.own b) k es, .sl (.acc b') k' es' => es ≠ [] ∧ b = b' ∧ k = k' ∧ es = es'
  | a, b => a = b
mutual
/-- The same where what S has beyond S' is let go. -/
def AV.leS (S S' : St) : AV → AV → Prop
  | .sl sh k es, y => (match y with
      | .sl .any k' es' => k = k' ∧ es = es'
      | .sl .nn k' es' => sh.mayNil = false ∧ k = k' ∧ es = es'
      | .top => True
      | y => AV.sl sh k es = y)
  | .nils, y => (match y with
      | .sl .any _ es => es = []
      | .top => True
      | y => AV.nils = y)
  | .ref b off, y => (match y with
      | .imm xs => S' b = none ∧ ∃ e cells, S b = some (.obj e cells) ∧ xs = cells.drop off
      | .top => True
      | y => AV.ref b off = y)
  | .ifc t x, y => (match y with
      | .ifc t' y => t = t' ∧ AV.leS S S' x y
      | .top => True
      | _ => False)
  | .tu xs, y => (match y with
      | .tu ys => AV.leSL S S' xs ys
      | .top => True
      | _ => False)
  | .ag xs, y => (match y with
      | .ag ys => AV.leSL S S' xs ys
      | .top => True
      | _ => False)
  | x, y => (match y with
      | .top => True
      | y => x = y)
def AV.leSL (S S' : St) : List AV → List AV → Prop
  | [], ys => ys = []
  | x :: xs, ys => (match ys with
      | [] => False
      | y :: ys => AV.leS S S' x y ∧ AV.leSL S S' xs ys)
end
def Env.le (env : Env) : Env → Prop
  | [] => True
  | (t, x) :: r => AV.le (look t env) x ∧ Env.le env r

def leL : List AV → List AV → Prop
  | [], [] => True
  | x :: xs, y :: ys => AV.le x y ∧ leL xs ys
  | _, _ => False
/-- S₀ says less of what its cells hold. -/
def St.leW (S₀ S : St) : Prop := ∀ b, S₀ b = S b ∨ ∃ e cs cs', S b = some (.obj e cs) ∧ S₀ b = some (.obj e cs') ∧ leL cs cs'
structure LoopI where
  ι : Type
  F : ι → Env
  G : ι → St → Prop
  μ : ι → Nat

/-- The parameters of a round. -/
def putPs : List Tmp → List AV → Env → Env
  | p :: ps, x :: xs, env => putPs ps xs ((p, x) :: env)
  | _, _, env => env
end
section
variable (P : Program)
/-- CODE. 'C.inR': it runs in a round of a range over a function. -/
def awp : Cx → Code → Env → St → (AExit → Env → St → Prop) → Prop
  | C, .skip, env, S, Q => Q .normal env S
  | C, .label _, env, S, Q => Q .normal env S
  | C, .ret, env, S, Q => Q .ret env S
  | C, .exit id, env, S, Q => Q (.exit id) env S
  | C, .seq a b, env, S, Q => awp C a env S fun e env' S' => match e with
      | .normal => awp C b env' S' Q
      | e => Q e env' S'
  | C, .region _ ops false, env, S, Q => aOps P C ops.toList ops.toList env S (fun env' S' => Q .normal env' S') (fun x S' => Q (.panic x) [] S')
  | C, .region _ ops true, env, S, Q => ∃ (qc : List Nat) (pl : Plan) (M : Env → St → Prop), pl.ok qc ops ops.size (Array.replicate ops.size false) [] = true ∧
      aPlan P C qc ops.toList pl env S M (fun x S' => Q (.panic x) [] S') ∧ ∀ env' S', M env' S' → ∃ F, (F = env' ∨ Env.le env' F) ∧ Q .normal F S'
  | C, .cond (.tmp t) x y, env, S, Q => (match look t env with
      | .bool b => split b (awp C x ((t, .bool true) :: env) S Q) (awp C y ((t, .bool false) :: env) S Q)
      | _ => False)
  | C, .block id c, env, S, Q => awp C c env S fun e env' S' => match e with
      | .exit id' => (bif Nat.beq id' id then Q .normal env' S' else Q (.exit id') env' S')
      | e => Q e env' S'
  | C, .scope c, env, S, Q => False
  | C, .loop c, env, S, Q => ∃ L : LoopI, (∃ i, Env.le env (L.F i) ∧ ∃ S₀, St.leW S₀ S ∧ L.G i S₀) ∧ ∀ i S₁, L.G i S₁ → awp C c (L.F i) S₁ fun e env' S' => match e with
      | .normal => ∃ j, Env.le env' (L.F j) ∧ (∃ S₀, St.leW S₀ S' ∧ L.G j S₀) ∧ L.μ j < L.μ i
      | e => Q e env' S'
  | C, .rangeFunc g ps assign body, env, S, Q => (match C.inR, ev C env g with
      | false, .fn (.func gf) [] lb => forceL lb fun lb => ∀ (l : Nat) (R : LpSt → Loop), S l = none →
          TripleE P (C.withY ⟨l, fun xs S₁ K => (S₁ l = some (.lp R .ready) ∧ xs.length = ps.size) ∧
            awp C.round assign (putPs ps.toList xs env) S₁ fun e env₁ S₂ => match e with
              | .normal => S₂ l = some (.lp R .ready) ∧ awp C.round body env₁ (S₂.upd l (.lp R .busy)) fun e _ S₃ => S₃ l = some (.lp R .busy) ∧ (match e with
                | .normal => K true (S₃.upd l (.lp R .ready))
                | .ret => K false (S₃.upd l (.lp R (.done .ret)))
                | .exit i => K false (S₃.upd l (.lp R (.done (.exit i))))
                | .panic _ => False)
              | _ => False⟩) gf (.fn (.yield l) [] [] :: lb) (S.upd l (.lp R .ready)) fun o S' => (∃ x, o = .ret x) ∧ ∃ st, S' l = some (.lp R st) ∧ (match st with
                | .ready => Q .normal env (S'.del l)
                | .done .ret => Q .ret env (S'.del l)
                | .done (.exit i) => Q (.exit i) env (S'.del l)
                | _ => False)
      | _, _ => False)
  | _, _, _, _, _ => False
end
section
variable (C : Cx)
def aRes (env : Env) (S : St) : List ResultVar → (List AV → Prop) → Prop
  | [], K => K []
  | .tmp t :: r, K => force (look t env) fun x => aRes env S r fun xs => K (x :: xs)
  | .cell a t :: r, K => aLoad C t (look a env) S fun x => aRes env S r fun xs => K (x :: xs)
def aOut (rs : List ResultVar) (env : Env) (S : St) (K : AV → Prop) : Prop :=
  match rs with
  | [r] => aRes C env S [r] fun xs => (match xs with | [x] => K x | _ => False)
  | rs => aRes C env S rs fun xs => K (.tu xs)
/-- The end of a body: what was made and isn't told is let go, and can be read from then on. -/
def aPost (rs : List ResultVar) (Q : Out → St → Prop) : AExit → Env → St → Prop
  | .normal, env, S | .ret, env, S => aOut C rs env S fun x => ∃ y S', Q (.ret y) S' ∧ St.le S' S ∧ AV.leS S S' x y
  | .panic x, env, S => force x fun x => ∃ y S', Q (.pan y) S' ∧ St.le S' S ∧ AV.leS S S' x y
  | _, _, _ => False
def argEnv (i : Nat) : List AV → Env
  | [] => []
  | x :: r => (i, x) :: argEnv (i + 1) r
end

/-- Does every operation write a slot of the frame? -/
def dstOk (n : Nat) : Code → Bool
  | .region _ ops _ => ops.toList.all fun o => match o.dst with | some d => Nat.blt d n | none => true
  | .seq a b => dstOk n a && dstOk n b
  | .cond _ a b => dstOk n a && dstOk n b
  | .block _ c => dstOk n c
  | .loop c => dstOk n c
  | .rangeFunc _ ps a b => (ps.toList.all fun p => Nat.blt p n) && (dstOk n a && dstOk n b)
  | _ => true

end Go.Proofs.YtdlgedpmbeafdaaGreatDoor.Aw

set_option linter.unusedVariables false
set_option linter.unusedSimpArgs false
namespace Go.Proofs.YtdlgedpmbeafdaaGreatDoor.Aw
open Go Go.RowKit

theorem force_eq (x : AV) (K : AV → Prop) : force x K = K x := by cases x <;> rfl
theorem forceL_eq (xs : List AV) (K : List AV → Prop) : forceL xs K = K xs := by
  induction xs generalizing K with
  | nil => rfl
  | cons x xs ih => simp only [forceL, force_eq, ih]
theorem forceR_eq (xs : List (List AV)) (K : List (List AV) → Prop) : forceR xs K = K xs := by
  induction xs generalizing K with
  | nil => rfl
  | cons x xs ih => simp only [forceR, forceL_eq, ih]
theorem when_iff (b : Bool) (K : Prop) : when b K ↔ b = true ∧ K := by cases b <;> simp [when]
theorem split_iff (b : Bool) (Kt Kf : Prop) : split b Kt Kf ↔ (b = true → Kt) ∧ (b = false → Kf) := by cases b <;> simp [split]
theorem split_of {b : Bool} {Kt Kf : Prop} (ht : b = true → Kt) (hf : b = false → Kf) : split b Kt Kf := (split_iff _ _ _).2 ⟨ht, hf⟩

/-! ### Types -/
section
variable {P : Program} {C : Cx}
theorem ty_info (hT : TyOk P C) {t : TypeId} (hk : known C t = true) :
    ∃ i d, P.info? t = some i ∧ i.size = (C.T t).size ∧ i.bytes = (C.T t).bytes ∧ i.zero = some (C.T t).zero ∧ P.underlying t = some d ∧ kindOf d = (C.T t).kind ∧
      (C.T t).zero.cells.size = (C.T t).size ∧ (C.T t).zero.cells.toList.all Value.oneCell' = true := by
  rcases hT.1 t with h | h
  · obtain ⟨h1, h2, h3, h4⟩ := h
    obtain ⟨i, hi, he⟩ := Option.map_eq_some_iff.1 h1
    obtain ⟨d, hd, hk⟩ := Option.map_eq_some_iff.1 h2
    simp only [Prod.mk.injEq] at he
    exact ⟨i, d, hi, he.1, he.2.1, he.2.2, hd, hk, h3, h4⟩
  · simp [known, h, TI.none] at hk
theorem known_of {t : TypeId} {k : TK} (h : (C.T t).kind = k) (hk : k ≠ .other) : known C t = true := by
  unfold known; rw [h]; cases k <;> simp_all
theorem und_slice (hT : TyOk P C) {t e : TypeId} (h : (C.T t).kind = .slice e) : P.underlying t = some (.slice e) := by
  obtain ⟨i, d, _, _, _, _, hd, hk, _⟩ := ty_info hT (known_of h (by simp))
  rw [h] at hk; rw [hd]; cases d <;> simp_all [kindOf]
theorem und_str (hT : TyOk P C) {t : TypeId} (h : (C.T t).kind = .str) : P.underlying t = some .string := by
  obtain ⟨i, d, _, _, _, _, hd, hk, _⟩ := ty_info hT (known_of h (by simp))
  rw [h] at hk; rw [hd]; cases d <;> simp_all [kindOf]
theorem und_int (hT : TyOk P C) {t : TypeId} {k : IntKind} (h : (C.T t).kind = .int k) : P.underlying t = some (.int k) := by
  obtain ⟨i, d, _, _, _, _, hd, hk, _⟩ := ty_info hT (known_of h (by simp))
  rw [h] at hk; rw [hd]; cases d <;> simp_all [kindOf]
theorem und_map (hT : TyOk P C) {t k e : TypeId} (h : (C.T t).kind = .map k e) : P.underlying t = some (.map k e) := by
  obtain ⟨i, d, _, _, _, _, hd, hk, _⟩ := ty_info hT (known_of h (by simp))
  rw [h] at hk; rw [hd]; cases d <;> simp_all [kindOf]
theorem und_struct (hT : TyOk P C) {t : TypeId} {fs : List (Nat × TypeId)} (h : (C.T t).kind = .strct fs) : ∃ fa, P.underlying t = some (.struct fa) ∧ fa.toList.map (fun f => (f.offset, f.type)) = fs := by
  obtain ⟨i, d, _, _, _, _, hd, hk, _⟩ := ty_info hT (known_of h (by simp))
  rw [h] at hk
  cases d <;> simp_all [kindOf]
theorem und_ptr (hT : TyOk P C) {t e : TypeId} (h : (C.T t).kind = .ptr e) : P.underlying t = some (.pointer e) := by
  obtain ⟨i, d, _, _, _, _, hd, hk, _⟩ := ty_info hT (known_of h (by simp))
  rw [h] at hk; rw [hd]; cases d <;> simp_all [kindOf]
theorem und_bool (hT : TyOk P C) {t : TypeId} (h : (C.T t).kind = .bool) : P.underlying t = some .bool := by
  obtain ⟨i, d, _, _, _, _, hd, hk, _⟩ := ty_info hT (known_of h (by simp))
  rw [h] at hk; rw [hd]; cases d <;> simp_all [kindOf]
theorem und_iface (hT : TyOk P C) {t : TypeId} {b : Bool} (h : (C.T t).kind = .iface b) : ∃ ms, P.underlying t = some (.interface ms) := by
  obtain ⟨i, d, _, _, _, _, hd, hk, _⟩ := ty_info hT (known_of h (by simp))
  rw [h] at hk; cases d <;> simp_all [kindOf]
theorem und_fn (hT : TyOk P C) {t : TypeId} (h : (C.T t).kind = .fn) : ∃ a b c, P.underlying t = some (.func a b c) := by
  obtain ⟨i, d, _, _, _, _, hd, hk, _⟩ := ty_info hT (known_of h (by simp))
  rw [h] at hk; cases d <;> simp_all [kindOf]
theorem run_size (hT : TyOk P C) {t : TypeId} (hk : known C t = true) (w : World) : (sizeOf t).run P w = .ok (C.T t).size w := by
  obtain ⟨i, d, hi, hs, _⟩ := ty_info hT hk
  simp [sizeOf, typeInfo, hi, hs]
theorem run_isAgg (hT : TyOk P C) {t : TypeId} (hk : known C t = true) (w : World) : (isAgg t).run P w = .ok (C.T t).agg w := by
  obtain ⟨i, d, hi, _, _, _, hd, hk, _⟩ := ty_info hT hk
  simp only [isAgg, Sem.run_bind, run_underlying hd, Result.andThen_ok, TI.agg, ← hk]
  cases d <;> rfl
end

/-! ### Values -/
theorem Rel_ofV0 (w : World) (rd) (v : Value) : Rel w rd (ofV0 v) v := by
  unfold ofV0
  split <;> simp [Rel]
theorem RelL_ofV0 (w : World) (rd) : ∀ vs : List Value, RelL w rd (vs.map ofV0) vs
  | [] => by simp [RelL]
  | v :: vs => by simp only [List.map_cons, RelL]; exact ⟨v, vs, rfl, Rel_ofV0 w rd v, RelL_ofV0 w rd vs⟩
theorem Rel_ofV (w : World) (rd) (v : Value) : Rel w rd (ofV v) v := by
  unfold ofV
  split
  · split
    · rename_i cs h
      simp only [Rel]
      exact ⟨cs, rfl, RelL_ofV0 w rd _, fun u hu => List.all_eq_true.1 h u hu⟩
    · simp [Rel]
  · exact Rel_ofV0 w rd v
theorem RelL_cellsOf {w : World} {rd} {x : AV} {v : Value} (h : Rel w rd x v) (ho : okCells x = true) : RelL w rd (cellsOf x) v.cells.toList ∧ ∀ u ∈ v.cells.toList, u.oneCell' = true := by
  cases x <;> simp only [okCells, scal, Bool.false_eq_true] at ho <;> simp only [cellsOf]
  case ag xs =>
    simp only [Rel] at h
    obtain ⟨cs, rfl, h2, h3⟩ := h
    exact ⟨h2, h3⟩
  all_goals
    have hc : v.cells = #[v] ∧ v.oneCell' = true := by
      simp only [Rel] at h
      first
        | (subst h; exact ⟨rfl, rfl⟩)
        | (rcases h with ⟨_, _, hz⟩ | ⟨_, _, _, rfl, _⟩
           · obtain ⟨_, rfl⟩ := hz.slice; exact ⟨rfl, rfl⟩
           · exact ⟨rfl, rfl⟩)
        | (obtain ⟨_, _, rfl, _⟩ := h; exact ⟨rfl, rfl⟩)
        | (obtain ⟨_, rfl, _⟩ := h; exact ⟨rfl, rfl⟩)
    refine ⟨?_, by rw [hc.1]; simpa using hc.2⟩
    rw [hc.1]
    simp only [RelL]
    exact ⟨v, [], rfl, h, rfl⟩

/-! ### Worlds -/
theorem heap_alloc_lt (w : World) (o : Obj) {b : Nat} (hb : b < w.heap.size) : (w.alloc o).heap[b]? = w.heap[b]? := heap_alloc_old w o hb
theorem cell_of_block {w w' : World} {b : Nat} (h : w'.heap[b]? = w.heap[b]?) (off : Nat) : w'.cell? ⟨b, off, none⟩ = w.cell? ⟨b, off, none⟩ :=
  World.cell?_of_block (a := ⟨b, off, none⟩) h
theorem shape_of_block {w w' : World} {b : Nat} (h : w'.heap[b]? = w.heap[b]?) : w'.shape? b = w.shape? b := by simp [World.shape?, h]
theorem shape_lt {w : World} {b : Nat} {x} (h : w.shape? b = some x) : b < w.heap.size := by
  unfold World.shape? at h
  cases e : w.heap[b]? with
  | none => rw [e] at h; cases h
  | some o => exact lt_of_block e
theorem Adv.alloc {w : World} {S : St} (o : Obj) (hS : S w.heap.size = none) : Adv w S (w.alloc o) S := by
  refine ⟨rfl, rfl, rfl, by simp, fun b hb hn => ⟨hn, heap_alloc_lt w o hb⟩, fun b off hb hr => ⟨hr, cell_of_block (heap_alloc_lt w o hb) off⟩, fun b e n h => ?_⟩
  rw [shape_of_block (heap_alloc_lt w o (shape_lt h))]; exact h
theorem Adv.allocOwn {w : World} {S : St} (o : Obj) (p : Own) (hS : S w.heap.size = none) : Adv w S (w.alloc o) (S.upd w.heap.size p) := by
  refine ⟨rfl, rfl, rfl, by simp, fun b hb hn => ⟨?_, heap_alloc_lt w o hb⟩, fun b off hb hr => ⟨?_, cell_of_block (heap_alloc_lt w o hb) off⟩, fun b e n h => ?_⟩
  · rw [St.upd_ne _ _ _ _ (Nat.ne_of_lt hb)]; exact hn
  · simp only [rdOf, St.upd_ne _ _ _ _ (Nat.ne_of_lt hb)]; exact hr
  · rw [shape_of_block (heap_alloc_lt w o (shape_lt h))]; exact h
theorem Inv.alloc {w : World} {S : St} (hi : Inv w S) (o : Obj) : Inv (w.alloc o) S := fun b p h =>
  OwnOk.mono (Adv.alloc o hi.fresh) (heap_alloc_lt w o (hi.lt h)) (hi b p h)
theorem Inv.allocOwn {w : World} {S : St} (hi : Inv w S) (o : Obj) (p : Own) (hp : OwnOk (w.alloc o) (rdOf (S.upd w.heap.size p)) w.heap.size p) : Inv (w.alloc o) (S.upd w.heap.size p) := by
  intro b q h
  by_cases e : b = w.heap.size
  · subst e; rw [St.upd_same] at h; cases h; exact hp
  · rw [St.upd_ne _ _ _ _ e] at h
    exact OwnOk.mono (Adv.allocOwn o p hi.fresh) (heap_alloc_lt w o (hi.lt h)) (hi b q h)
theorem GlobOk.mono {C : Cx} {w w' : World} {S S' : St} (hg : GlobOk C w S) (h : Adv w S w' S') : GlobOk C w' S' := fun g xs e => by
  obtain ⟨h1, h2, h3, ee, h4⟩ := hg g xs e
  exact ⟨(h.old g h2 h1).1, Nat.lt_of_lt_of_le h2 h.size, RelAt.mono h g 0 xs h3, ee, h.shape _ _ _ h4⟩
theorem Good.mk {C : Cx} {w w' : World} {S S' : St} (hg : Good C w S) (hi : Inv w' S') (h : Adv w S w' S') : Good C w' S' := ⟨hi, hg.2.mono h⟩
theorem Good.drew {C : Cx} {w : World} {S : St} (hg : Good C w S) : Good C w.drew S := hg.mk hg.1.drew (Adv.refl w S).drew
theorem Good.shrink {C : Cx} {w : World} {S S' : St} (hg : Good C w S') (h : St.le S S') : Good C w S := hg.mk (hg.1.shrink h) (Adv.shrink h)

/-! ### Frames -/
structure RelEnv (w : World) (S : St) (tmps : Array Value) (env : Env) (n : Nat) : Prop where
  size : tmps.size = n
  at_ : ∀ t, Rel w (rdOf S) (look t env) (tmps.getD t undef)
theorem RelEnv.mono {w w' : World} {S S' : St} {tmps : Array Value} {env : Env} {n : Nat} (h : RelEnv w S tmps env n) (ha : Adv w S w' S') : RelEnv w' S' tmps env n :=
  ⟨h.size, fun t => Rel.mono ha _ _ (h.at_ t)⟩
theorem look_cons (t s : Nat) (x : AV) (env : Env) : look t ((s, x) :: env) = if s = t then x else look t env := by
  show (bif Nat.beq s t then x else look t env) = _
  by_cases h : s = t
  · subst h; rw [if_pos rfl, Nat.beq_refl]; rfl
  · rw [if_neg h]
    have : Nat.beq s t = false := by
      cases e : Nat.beq s t with
      | false => rfl
      | true => exact absurd (Nat.eq_of_beq_eq_true e) h
    rw [this]; rfl
theorem RelEnv.put {w : World} {S : St} {a : Act} {env : Env} {n : Nat} (h : RelEnv w S a.tmps env n) (d : Option Tmp) (hd : ∀ t, d = some t → t < n) {x : AV} {v : Value} (hx : Rel w (rdOf S) x v) :
    RelEnv w S (a.put d v).tmps (put d x env) n := by
  cases d with
  | none => exact h
  | some d =>
    have hdn := hd d rfl
    have hsz := h.size
    refine ⟨by simp [Act.put, h.size], fun t => ?_⟩
    simp only [Act.put, Aw.put, look_cons]
    by_cases e : d = t
    · subst e; simp only [if_true]; simp [Array.getD, h.size, hdn]; exact hx
    · simp only [if_neg e]
      have := h.at_ t
      simp only [Array.getD_eq_getD_getElem?, Array.getElem?_setIfInBounds_ne e] at this ⊢
      exact this
theorem RelEnv.know {w : World} {S : St} {tmps : Array Value} {env : Env} {n : Nat} (h : RelEnv w S tmps env n) (t : Nat) {x : AV} (hx : Rel w (rdOf S) x (tmps.getD t undef)) : RelEnv w S tmps ((t, x) :: env) n :=
  ⟨h.size, fun s => by rw [look_cons]; split; (· rename_i e; subst e; exact hx); exact h.at_ s⟩
theorem ev_sound {C : Cx} {w : World} {S : St} {a : Act} {env : Env} {n : Nat} (hg : Good C w S) (h : RelEnv w S a.tmps env n) (x : Operand) : Rel w (rdOf S) (ev C env x) (a.eval x) := by
  cases x with
  | tmp t => exact h.at_ t
  | const v => exact Rel_ofV w _ v
  | func f => simp only [ev, Act.eval, Rel]; exact ⟨#[], #[], rfl, by simp [RelL], by simp [RelL]⟩
  | global g =>
    simp only [ev, Act.eval]
    cases e : C.G g with
    | none => simp [Rel]
    | some xs => simp only [Rel]; exact ⟨g, 0, rfl, (hg.2 g xs e).2.2.1⟩
theorem evL_sound {C : Cx} {w : World} {S : St} {a : Act} {env : Env} {n : Nat} (hg : Good C w S) (h : RelEnv w S a.tmps env n) : ∀ xs : List Operand, RelL w (rdOf S) (xs.map (ev C env)) (xs.map a.eval)
  | [] => by simp [RelL]
  | x :: xs => by simp only [List.map_cons, RelL]; exact ⟨_, _, rfl, ev_sound hg h x, evL_sound hg h xs⟩

end Go.Proofs.YtdlgedpmbeafdaaGreatDoor.Aw

set_option linter.unusedVariables false
set_option linter.unusedSimpArgs false
namespace Go.Proofs.YtdlgedpmbeafdaaGreatDoor.Aw
open Go Go.RowKit

def CellsAt (w : World) (b off : Nat) (vs : List Value) : Prop := ∀ i v, vs[i]? = some v → w.cell? ⟨b, off + i, none⟩ = some v
def RdAt (rd : Nat → Nat → Prop) (b off n : Nat) : Prop := ∀ i, i < n → rd b (off + i)

theorem RelAt.cells {w : World} {rd} {b : Nat} : ∀ {xs : List AV} {off : Nat}, RelAt w rd b off xs → ∃ vs, RelL w rd xs vs ∧ CellsAt w b off vs ∧ (∀ u ∈ vs, u.oneCell' = true) ∧ RdAt rd b off xs.length
  | [], off, h => ⟨[], by simp [RelL], fun i v hi => by simp at hi, by simp, fun i hi => absurd hi (by simp)⟩
  | x :: xs, off, h => by
    simp only [RelAt] at h
    obtain ⟨⟨v, ⟨h1, h2, h3⟩, hx⟩, hr⟩ := h
    obtain ⟨vs, k1, k2, k3, k4⟩ := RelAt.cells hr
    refine ⟨v :: vs, by simp only [RelL]; exact ⟨v, vs, rfl, hx, k1⟩, fun i u hi => ?_, fun u hu => ?_, fun i hi => ?_⟩
    · cases i with
      | zero => simp at hi; subst hi; exact h2
      | succ i =>
        simp at hi
        have := k2 i u hi
        rwa [show off + 1 + i = off + (i + 1) from by omega] at this
    · rcases List.mem_cons.1 hu with rfl | hu
      · exact h3
      · exact k3 u hu
    · cases i with
      | zero => exact h1
      | succ i =>
        have := k4 i (by simp at hi; omega)
        rwa [show off + 1 + i = off + (i + 1) from by omega] at this
theorem RelAt.of_cells {w : World} {rd} {b : Nat} : ∀ {xs : List AV} {vs : List Value} {off : Nat}, RelL w rd xs vs → CellsAt w b off vs → (∀ u ∈ vs, u.oneCell' = true) → RdAt rd b off xs.length → RelAt w rd b off xs
  | [], vs, off, h, hc, h1, hr => by simp [RelAt]
  | x :: xs, vs, off, h, hc, h1, hr => by
    simp only [RelL] at h
    obtain ⟨u, us, rfl, h2, h3⟩ := h
    simp only [RelAt]
    refine ⟨⟨u, ⟨hr 0 (by simp), hc 0 u rfl, h1 u (by simp)⟩, h2⟩, RelAt.of_cells h3 (fun i v hi => ?_) (fun u hu => h1 u (by simp [hu])) (fun i hi => ?_)⟩
    · have := hc (i + 1) v (by simpa using hi)
      rwa [show off + (i + 1) = off + 1 + i from by omega] at this
    · have := hr (i + 1) (by simp; omega)
      rwa [show off + (i + 1) = off + 1 + i from by omega] at this
theorem RelRows.cells {w : World} {rd} {k b : Nat} : ∀ {es : List (List AV)} {off : Nat}, RelRows w rd k b off es → ∃ vs, RelL w rd es.flatten vs ∧ CellsAt w b off vs ∧ (∀ u ∈ vs, u.oneCell' = true) ∧ RdAt rd b off (es.length * k) ∧ vs.length = es.length * k
  | [], off, h => ⟨[], by simp [RelL], fun i v hi => by simp at hi, by simp, fun i hi => absurd hi (by simp), by simp⟩
  | e :: es, off, h => by
    simp only [RelRows] at h
    obtain ⟨⟨hl, h1⟩, h2⟩ := h
    obtain ⟨vs, k1, k2, k3, k4⟩ := RelAt.cells h1
    obtain ⟨us, m1, m2, m3, m4, m5⟩ := RelRows.cells h2
    have hvl : vs.length = k := by rw [← RelL.length k1, hl]
    refine ⟨vs ++ us, by simpa using RelL.append k1 m1, fun i v hi => ?_, fun u hu => ?_, fun i hi => ?_, by simp [hvl, m5, Nat.succ_mul]; omega⟩
    · by_cases hik : i < k
      · rw [List.getElem?_append_left (by omega)] at hi
        exact k2 i v hi
      · rw [List.getElem?_append_right (by omega), hvl] at hi
        have := m2 (i - k) v hi
        rwa [show off + k + (i - k) = off + i from by omega] at this
    · rcases List.mem_append.1 hu with hu | hu
      · exact k3 u hu
      · exact m3 u hu
    · by_cases hik : i < k
      · exact k4 i (by omega)
      · have := m4 (i - k) (by simp [Nat.succ_mul] at hi; omega)
        rwa [show off + k + (i - k) = off + i from by omega] at this
theorem RelRows.of_cells {w : World} {rd} {k b : Nat} : ∀ {es : List (List AV)} {vs : List Value} {off : Nat}, (∀ e ∈ es, e.length = k) → RelL w rd es.flatten vs → CellsAt w b off vs → (∀ u ∈ vs, u.oneCell' = true) → RdAt rd b off (es.length * k) → RelRows w rd k b off es
  | [], vs, off, hl, h, hc, h1, hr => by simp [RelRows]
  | e :: es, vs, off, hl, h, hc, h1, hr => by
    have hel : e.length = k := hl e (by simp)
    simp only [List.flatten_cons] at h
    have ht := RelL.take h k
    have hd := RelL.drop h k
    rw [List.take_left' hel] at ht
    rw [List.drop_left' hel] at hd
    simp only [RelRows]
    refine ⟨⟨hel, RelAt.of_cells ht (fun i v hi => ?_) (fun u hu => h1 u (List.mem_of_mem_take hu)) (fun i hi => ?_)⟩, RelRows.of_cells (fun e he => hl e (by simp [he])) hd (fun i v hi => ?_) (fun u hu => h1 u (List.mem_of_mem_drop hu)) (fun i hi => ?_)⟩
    · rw [List.getElem?_take] at hi
      split at hi
      · exact hc i v hi
      · cases hi
    · exact hr i (by simp [Nat.succ_mul]; omega)
    · rw [List.getElem?_drop] at hi
      have := hc _ v hi
      rwa [show off + (k + i) = off + k + i from by omega] at this
    · have := hr (k + i) (by simp [Nat.succ_mul]; omega)
      rwa [show off + (k + i) = off + k + i from by omega] at this

section
variable {P : Program} {C : Cx}
theorem run_loadCells_at (w : World) (b off : Nat) (vs : List Value) (h : CellsAt w b off vs) : (loadCells ⟨b, off, none⟩ vs.length).run P w = .ok vs.toArray w :=
  run_loadCells_list w ⟨b, off, none⟩ vs fun j v hj => by rw [Addr.add_lit]; exact h j v hj
theorem aPart_load (hT : TyOk P C) {w : World} {rd} {t : TypeId} (hk : known C t = true) {b base off : Nat} {xs : List AV} {vs : List Value} (hr : RelL w rd xs vs) (hc : CellsAt w b base vs) (h1 : ∀ u ∈ vs, u.oneCell' = true)
    {K : AV → Prop} (h : aPart C t xs off K) : ∃ x v, K x ∧ (loadVar t ⟨b, base + off, none⟩).run P w = .ok v w ∧ Rel w rd x v := by
  unfold aPart at h
  unfold loadVar
  simp only [Sem.run_bind, run_isAgg hT hk, Result.andThen_ok]
  cases ha : (C.T t).agg with
  | true =>
    rw [ha] at h
    simp only [when_iff, forceL_eq] at h
    obtain ⟨hl, h⟩ := h
    have hl := Nat.le_of_ble_eq_true hl
    have hd : ((vs.drop off).take (C.T t).size).length = (C.T t).size := by
      rw [List.length_take, List.length_drop, ← RelL.length hr]; omega
    have hcc : CellsAt w b (base + off) ((vs.drop off).take (C.T t).size) := fun i v hi => by
      rw [List.getElem?_take] at hi
      split at hi
      · rw [List.getElem?_drop] at hi
        have := hc _ v hi
        rwa [← Nat.add_assoc] at this
      · cases hi
    have hrun := run_loadCells_at (P := P) w b (base + off) _ hcc
    rw [hd] at hrun
    refine ⟨_, .agg ((vs.drop off).take (C.T t).size).toArray, h, by simp [run_size hT hk, hrun], ?_⟩
    simp only [Rel]
    exact ⟨_, rfl, by simpa using RelL.take (RelL.drop hr off) _, fun u hu => h1 u (List.mem_of_mem_drop (List.mem_of_mem_take (by simpa using hu)))⟩
  | false =>
    rw [ha] at h
    cases hx : xs.drop off with
    | nil => rw [hx] at h; exact h.elim
    | cons x r =>
      rw [hx] at h
      simp only [force_eq] at h
      have hg : xs[off]? = some x := by
        have : (xs.drop off)[0]? = some x := by rw [hx]; rfl
        simpa using this
      obtain ⟨v, hv, hxv⟩ := RelL.get hr off x hg
      exact ⟨x, v, h, by simp [hc off v hv], hxv⟩
theorem aPart_part (hT : TyOk P C) {w : World} {rd} {t : TypeId} (hk : known C t = true) {off : Nat} {xs : List AV} {cs : Array Value} (hr : RelL w rd xs cs.toList) (h1 : ∀ u ∈ cs.toList, u.oneCell' = true)
    {K : AV → Prop} (h : aPart C t xs off K) : ∃ x v, K x ∧ (part t cs off).run P w = .ok v w ∧ Rel w rd x v := by
  unfold aPart at h
  unfold part
  simp only [Sem.run_bind, run_isAgg hT hk, Result.andThen_ok]
  cases ha : (C.T t).agg with
  | true =>
    rw [ha] at h
    simp only [when_iff, forceL_eq] at h
    obtain ⟨hl, h⟩ := h
    have hl := Nat.le_of_ble_eq_true hl
    refine ⟨_, .agg (cs.extract off (off + (C.T t).size)), h, by simp [run_size hT hk], ?_⟩
    have he : (cs.extract off (off + (C.T t).size)).toList = (cs.toList.drop off).take (C.T t).size := by
      rw [Array.toList_extract, List.extract_eq_take_drop]
      congr 1
      omega
    simp only [Rel]
    refine ⟨_, rfl, ?_, fun u hu => ?_⟩
    · rw [he]; exact RelL.take (RelL.drop hr off) _
    · rw [he] at hu; exact h1 u (List.mem_of_mem_drop (List.mem_of_mem_take hu))
  | false =>
    rw [ha] at h
    cases hx : xs.drop off with
    | nil => rw [hx] at h; exact h.elim
    | cons x r =>
      rw [hx] at h
      simp only [force_eq] at h
      have hg : xs[off]? = some x := by
        have : (xs.drop off)[0]? = some x := by rw [hx]; rfl
        simpa using this
      obtain ⟨v, hv, hxv⟩ := RelL.get hr off x hg
      have hv' : cs[off]? = some v := by simpa using hv
      exact ⟨x, v, h, by simp [hv'], hxv⟩
end

theorem setRange_length (cells : List AV) (off : Nat) (xs : List AV) : (setRange cells off xs).length = cells.length := by
  induction xs generalizing cells off with
  | nil => rfl
  | cons x xs ih => simp only [setRange, ih, List.length_set]
theorem RelL.setRange {w : World} {rd} : ∀ {xs : List AV} {vs : List Value} {cells : List AV} {cs : List Value} {off : Nat}, RelL w rd xs vs → RelL w rd cells cs → off + xs.length ≤ cells.length →
    RelL w rd (setRange cells off xs) (cs.take off ++ vs ++ cs.drop (off + vs.length))
  | [], vs, cells, cs, off, h, hc, hl => by simp only [RelL] at h; subst h; simpa [Aw.setRange] using hc
  | x :: xs, vs, cells, cs, off, h, hc, hl => by
    simp only [RelL] at h
    obtain ⟨u, us, rfl, h2, h3⟩ := h
    have hlen := RelL.length hc
    have hoff : off < cs.length := by simp at hl; omega
    have := RelL.setRange (off := off + 1) h3 (RelL.set hc off x u h2) (by simp at hl ⊢; omega)
    simp only [Aw.setRange]
    have e1 : (cs.set off u).take (off + 1) = cs.take off ++ [u] := by
      rw [List.take_add_one, List.take_set_of_le (Nat.le_refl _)]
      simp [List.getElem?_set, hoff]
    have e2 : (cs.set off u).drop (off + 1 + us.length) = cs.drop (off + (u :: us).length) := by
      rw [List.drop_set_of_lt (by omega)]
      simp
      congr 1
      omega
    rw [e1, e2] at this
    simpa using this

theorem Adv.setRow {w : World} {S : St} {b : Nat} {e : TypeId} {cells : List AV} (hS : S b = some (.obj e cells)) {old cs : Array Value} (hb : w.heap[b]? = some (.cells old e (0, 0))) (hsz : cs.size = old.size) (cells' : List AV) :
    Adv w S (w.setRow b cs) (S.upd b (.obj e cells')) := by
  have hother : ∀ x, x ≠ b → (w.setRow b cs).heap[x]? = w.heap[x]? := fun x hx => setRow_other w b x cs hx
  refine ⟨rfl, rfl, rfl, by simp [World.setRow], fun x hx hn => ?_, fun x off hx hr => ?_, fun x e' n hx => ?_⟩
  · have hne : x ≠ b := St.ne_of' hn hS
    exact ⟨by rw [St.upd_ne _ _ _ _ hne]; exact hn, hother x hne⟩
  · have hne : x ≠ b := by rintro rfl; simp only [rdOf, hS] at hr
    refine ⟨by simp only [rdOf, St.upd_ne _ _ _ _ hne]; exact hr, cell_of_block (hother x hne) off⟩
  · by_cases hne : x = b
    · subst hne
      simp only [World.shape?, hb] at hx
      simp only [World.shape?, setRow_heap w x old cs e (0, 0) hb]
      simpa [hsz] using hx
    · rw [shape_of_block (hother x hne)]; exact hx

end Go.Proofs.YtdlgedpmbeafdaaGreatDoor.Aw

set_option linter.unusedVariables false
set_option linter.unusedSimpArgs false
namespace Go.Proofs.YtdlgedpmbeafdaaGreatDoor.Aw
open Go Go.RowKit

theorem op_value {P : Program} {o : Oper} {a : Act} {w w' : World} {v : Value} {next : Act → World → Prop} {Q : Exit → Act → World → Prop}
    (h : (execOp a.eval o).run P w = .ok (.value v) w') (hn : next (a.put o.dst v) w') : o.wp P a w next Q := by
  unfold Oper.wp; rw [h]; exact hn
theorem op_skip {P : Program} {o : Oper} {a : Act} {w w' : World} {next : Act → World → Prop} {Q : Exit → Act → World → Prop}
    (h : (execOp a.eval o).run P w = .ok .skip w') (hn : next (a.put o.dst undef) w') : o.wp P a w next Q := by
  unfold Oper.wp; rw [h]; exact hn
theorem op_panic {P : Program} {o : Oper} {a : Act} {w w' : World} {v : Value} {next : Act → World → Prop} {Q : Exit → Act → World → Prop}
    (h : (execOp a.eval o).run P w = .halt (.panic v) w') (hn : Q (.panic [{ v, recovered := false }]) a w') : o.wp P a w next Q := by
  unfold Oper.wp; rw [h]; exact hn
theorem toList_eq (s t : ByteArray) : (s.toList == t.toList) = decide (s = t) := by
  have h : ∀ s : ByteArray, s.toList = s.data.toList := Lib.toList_data
  rw [h, h]
  by_cases e : s = t
  · subst e; simp
  · have : ¬ s.data.toList = t.data.toList := fun h => e (by
      have h' : s.data = t.data := by simpa using congrArg List.toArray h
      cases s; cases t; simp_all)
    rw [decide_eq_false e]
    exact beq_eq_false_iff_ne.2 this

section
variable {P : Program} {C : Cx}

theorem equal_open (xt : TypeId) (x y : Value) : Op.equal xt x y = Op.equalIn (9999 + 1) xt x y := rfl
theorem flatEq_sound (hT : TyOk P C) {w : World} {rd} {ft : TypeId} {p q : AV} {x y : Value} (hx : Rel w rd p x) (hy : Rel w rd q y) {r : Bool} (h : flatEq (C.T ft).kind p q = some r) :
    (C.T ft).agg = false ∧ known C ft = true ∧ ∀ d, (Op.equalIn (d + 1) ft x y).run P w = .ok r w := by
  unfold flatEq at h
  split at h
  · rename_i k k1 a k2 b hk
    simp only [Rel] at hx hy
    subst hx hy
    split at h
    · rename_i hkk
      have hkk := of_decide_eq_true hkk
      subst hkk
      simp only [Option.some.injEq] at h
      subst h
      refine ⟨by simp only [TI.agg, hk], known_of hk (by simp), fun d => run_equalIn_int w d ft k1 k a b (und_int hT hk)⟩
    · cases h
  · rename_i a b hk
    simp only [Rel] at hx hy
    subst hx hy
    simp only [Option.some.injEq] at h
    subst h
    refine ⟨by simp only [TI.agg, hk], known_of hk (by simp), fun d => ?_⟩
    rw [run_equalIn_string w d ft a b (und_str hT hk), toList_eq]
  · rename_i a b hk
    simp only [Rel] at hx hy
    subst hx hy
    simp only [Option.some.injEq] at h
    subst h
    exact ⟨by simp only [TI.agg, hk], known_of hk (by simp), fun d => run_equalIn_bool' w d ft a b (und_bool hT hk)⟩
  · cases h
theorem aEqF_sound (hT : TyOk P C) {w : World} {rd} {cs ds : Array Value} : ∀ (fs : List Field) (i : Nat) (xs ys : List AV), (fs.all fun f => f.name != "_") = true → RelL w rd xs (cs.toList.drop i) → RelL w rd ys (ds.toList.drop i) →
    ∀ {r : Bool}, aEqF C i (fs.map fun f => (f.offset, f.type)) xs ys = some r → ∀ d, (Op.eqFields (d + 1) cs ds fs).run P w = .ok r w
  | [], i, xs, ys, hn, hx, hy, r, h, d => by
    have : r = true := by
      simp only [List.map_nil] at h
      unfold aEqF at h
      split at h <;> simp_all
    subst this
    rfl
  | f :: fs, i, xs, ys, hn, hx, hy, r, h, d => by
    simp only [List.all_cons, Bool.and_eq_true, bne_iff_ne, ne_eq] at hn
    obtain ⟨hnf, hn⟩ := hn
    simp only [List.map_cons] at h
    cases xs with
    | nil => simp [aEqF] at h
    | cons x xs =>
      cases ys with
      | nil => simp [aEqF] at h
      | cons y ys =>
        simp only [aEqF] at h
        split at h
        · rename_i a hoff hfl
          have hoff := Nat.eq_of_beq_eq_true hoff
          split at h
          · rename_i b hb
            simp only [Option.some.injEq] at h
            subst h
            simp only [RelL] at hx hy
            obtain ⟨u, us, e1, hx1, hx2⟩ := hx
            obtain ⟨v, vs, e2, hy1, hy2⟩ := hy
            obtain ⟨g1, g2, g3⟩ := flatEq_sound (P := P) hT hx1 hy1 hfl
            have d1 : cs.toList.drop (i + 1) = us := by rw [← List.drop_drop, e1]; rfl
            have d2 : ds.toList.drop (i + 1) = vs := by rw [← List.drop_drop, e2]; rfl
            have c1 : cs[f.offset]? = some u := by
              rw [hoff]
              have : (cs.toList.drop i)[0]? = some u := by rw [e1]; rfl
              simpa using this
            have c2 : ds[f.offset]? = some v := by
              rw [hoff]
              have : (ds.toList.drop i)[0]? = some v := by rw [e2]; rfl
              simpa using this
            have p1 : (part f.type cs f.offset).run P w = .ok u w := by simp [part, run_isAgg hT g2, g1, c1]
            have p2 : (part f.type ds f.offset).run P w = .ok v w := by simp [part, run_isAgg hT g2, g1, c2]
            have rest := aEqF_sound hT fs (i + 1) xs ys hn (by rw [d1]; exact hx2) (by rw [d2]; exact hy2) hb d
            simp only [Op.eqFields, hnf, ne_eq, not_false_eq_true, if_true, Sem.run_bind, p1, p2, g3 d, Result.andThen_ok]
            cases a with
            | false => simp
            | true => simpa using rest
          · cases h
        · cases h
theorem aEq_sound (hT : TyOk P C) {w : World} {rd} {xt : TypeId} {p q : AV} {x y : Value} (hx : Rel w rd p x) (hy : Rel w rd q y) {r : Bool} (hr : aEq C xt p q = some r) :
    (Op.equal xt x y).run P w = .ok r w ∧ (∀ op ox oy, (eqGuard op xt ox oy x y).run P w = .ok () w) ∧
      (∀ op, op = .eql → binOp op xt x y = do pure (.bool (← Op.equal xt x y))) ∧ (∀ op, op = .neq → binOp op xt x y = do pure (.bool (!(← Op.equal xt x y)))) := by
  have hgd : ∀ (op : BinOp) (ox oy : Operand), (¬ (x = .nilIface ∧ y = .nilIface)) → (∀ cs, x ≠ .agg cs) → (eqGuard op xt ox oy x y).run P w = .ok () w := fun op ox oy h1 h2 => by
    unfold eqGuard
    cases op <;> simp <;> cases x <;> simp at h2 ⊢ <;> cases y <;> simp at h1 ⊢
  by_cases hs : ∃ fs xs ys, (C.T xt).kind = .strct fs ∧ p = .ag xs ∧ q = .ag ys
  · obtain ⟨fs, xs, ys, hk, rfl, rfl⟩ := hs
    unfold aEq at hr
    rw [hk] at hr
    dsimp only at hr
    split at hr
    · rename_i hE
      have hok := hT.2 xt hE
      obtain ⟨fa, hu, hfs⟩ := und_struct hT hk
      unfold EqOkB at hok
      rw [hu] at hok
      simp only [Bool.and_eq_true, Bool.not_eq_true'] at hok
      obtain ⟨⟨ho1, ho2⟩, ho3⟩ := hok
      simp only [Rel] at hx hy
      obtain ⟨cs, rfl, hx1, _⟩ := hx
      obtain ⟨ds, rfl, hy1, _⟩ := hy
      have hfo : P.fieldsOf xt = fa := by simp only [Program.fieldsOf, hu]
      have hrun : (Op.equal xt (.agg cs) (.agg ds)).run P w = .ok r w := by
        rw [equal_open, run_equalIn_struct w _ xt cs ds (by rw [hfo]; exact hu) ho1, hfo]
        exact aEqF_sound hT fa.toList 0 xs ys ho3 (by simpa using hx1) (by simpa using hy1) (by rw [hfs]; exact hr) 9998
      exact ⟨hrun, fun op ox oy => run_eqGuard_agg w op xt ox oy cs ds ho2, fun op ho => by subst ho; rfl, fun op ho => by subst ho; rfl⟩
    · cases hr
  unfold aEq at hr
  split at hr
  · rename_i hk; exact absurd ⟨_, _, _, hk, rfl, rfl⟩ hs
  all_goals simp only [Option.some.injEq, reduceCtorEq] at hr
  all_goals (rename_i hk; subst hr; simp only [Rel, Sh.mayNil, Bool.false_eq_true, reduceCtorEq, false_and, false_or, true_and] at hx hy)
  all_goals
    first
      | (have hu := und_bool hT hk)
      | (have hu := und_ptr hT hk)
      | (have hu := und_slice hT hk)
      | (obtain ⟨_, _, _, hu⟩ := und_fn hT hk)
      | (obtain ⟨_, hu⟩ := und_iface hT hk)
  all_goals
    first
      | (obtain ⟨_, _, _, rfl, _⟩ := hx)
      | (obtain ⟨_, _, rfl, _⟩ := hx)
      | (obtain ⟨_, rfl, _⟩ := hx)
      | (subst hx)
  all_goals
    first
      | (obtain ⟨_, _, _, rfl, _⟩ := hy)
      | (obtain ⟨_, _, rfl, _⟩ := hy)
      | (obtain ⟨_, rfl, _⟩ := hy)
      | (subst hy)
  all_goals
    refine ⟨?_, fun op ox oy => hgd op ox oy (by simp) (by simp), fun op ho => by subst ho; rfl, fun op ho => by subst ho; rfl⟩
    rw [equal_open]
    generalize 9999 = d
    simp [Op.equalIn, run_underlying hu]

theorem aBin_sound (hT : TyOk P C) {w : World} {rd} {op : BinOp} {xt : TypeId} {ρ : Operand → Value} {x y : Operand} {p q : AV} (hx : Rel w rd p (ρ x)) (hy : Rel w rd q (ρ y)) {K : AV → Prop} (h : aBin C op xt x y p q K) :
    ∃ z v, K z ∧ Rel w rd z v ∧ (do eqGuard op xt x y (ρ x) (ρ y); binOp op xt (ρ x) (ρ y) : Sem Value).run P w = .ok v w := by
  unfold aBin at h
  split at h
  · -- ints
    rename_i k m k' n
    simp only [Rel] at hx hy
    rw [hx, hy]
    have hgd : ∀ op, (eqGuard op xt x y (.int k m) (.int k' n)).run P w = .ok () w := fun op => by
      unfold eqGuard
      cases op <;> simp
    split at h
    · refine ⟨_, .int k (k.wrap (m * 2 ^ (min n.toNat k.bits))), h.2, by simp [Rel], ?_⟩
      have := h.1
      simp [hgd, binOp, Op.shift, show ¬ n < 0 by omega]
    · refine ⟨_, .int k (m.fdiv (2 ^ (min n.toNat k.bits))), h.2, by simp [Rel], ?_⟩
      have := h.1
      simp [hgd, binOp, Op.shift, show ¬ n < 0 by omega]
    · rename_i hs1 hs2
      rw [when_iff] at h
      obtain ⟨hk, h⟩ := h
      have hk : k = k' := of_decide_eq_true hk
      subst hk
      unfold aIntOp at h
      cases op <;> simp only at h <;> first
        | exact h.elim
        | exact absurd rfl hs1
        | exact absurd rfl hs2
        | exact ⟨_, _, h, by simp only [Rel]; rfl, by simp [hgd, binOp, Op.intArith, Op.intCmp]⟩
        | exact ⟨_, _, h.2, by simp only [Rel]; rfl, by simp [hgd, binOp, Op.intDiv, h.1]⟩
  · -- strings
    rename_i s t
    simp only [Rel] at hx hy
    rw [hx, hy]
    have hgd : ∀ op, (eqGuard op xt x y (.string s) (.string t)).run P w = .ok () w := fun op => by
      unfold eqGuard
      cases op <;> simp
    unfold aStrOp at h
    cases op <;> simp only at h
    case add =>
      refine ⟨_, .string (s ++ t), h.2, by simp [Rel], ?_⟩
      have h1 := h.1
      have : ¬ ((s.size + t.size : Nat) : Int) > IntKind.i64.max := by
        show ¬ ((s.size + t.size : Nat) : Int) > 9223372036854775807
        omega
      simp only [Sem.run_bind, hgd, Result.andThen_ok, binOp, Op.stringOp]
      rw [if_neg this]; rfl
    case eql =>
      refine ⟨_, .bool (decide (s = t)), h, by simp only [Rel], ?_⟩
      simp only [Sem.run_bind, hgd, Result.andThen_ok, binOp, Op.stringOp, toList_eq]; rfl
    case neq =>
      refine ⟨_, .bool (!decide (s = t)), h, by simp only [Rel], ?_⟩
      simp only [Sem.run_bind, hgd, Result.andThen_ok, binOp, Op.stringOp, toList_eq]; rfl
  · -- nil against nil
    simp only [Rel] at hx hy
    rw [hx, hy]
    have hc : ∀ op, (isConst x || isConst y) = true → (eqGuard op xt x y .nilIface .nilIface).run P w = .ok () w := fun op hc => by
      unfold eqGuard
      cases x <;> cases y <;> simp [isConst] at hc <;> cases op <;> simp
    split at h
    · rename_i hk
      obtain ⟨ms, hu⟩ := und_iface hT hk
      rw [when_iff] at h
      refine ⟨_, .bool true, h.2, by simp only [Rel], ?_⟩
      have he : (Op.equal xt .nilIface .nilIface).run P w = .ok true w := by
        rw [equal_open]; generalize 9999 = d; simp [Op.equalIn, run_underlying hu]
      simp [hc _ h.1, binOp, he]
    · rename_i hk
      obtain ⟨ms, hu⟩ := und_iface hT hk
      rw [when_iff] at h
      refine ⟨_, .bool false, h.2, by simp only [Rel], ?_⟩
      have he : (Op.equal xt .nilIface .nilIface).run P w = .ok true w := by
        rw [equal_open]; generalize 9999 = d; simp [Op.equalIn, run_underlying hu]
      simp [hc _ h.1, binOp, he]
    · exact h.elim
  · rename_i hn1 hn2 hn3
    split at h
    · split at h
      · rename_i r hr
        obtain ⟨k1, k2, k3, k4⟩ := aEq_sound (P := P) hT hx hy hr
        refine ⟨_, .bool r, h, by simp only [Rel], ?_⟩
        simp [k2, k3 _ rfl, k1]
      · exact h.elim
    · split at h
      · rename_i r hr
        obtain ⟨k1, k2, k3, k4⟩ := aEq_sound (P := P) hT hx hy hr
        refine ⟨_, .bool (!r), h, by simp only [Rel], ?_⟩
        simp [k2, k4 _ rfl, k1]
      · exact h.elim
    · exact h.elim
theorem nilTest_bin {op : BinOp} {xt : TypeId} {x y : Operand} {p q : AV} {r : Bool × List (List AV)} (hr : nilTest C op xt p q = some r) {K : AV → Prop} : ¬ aBin C op xt x y p q K := by
  unfold nilTest at hr
  split at hr
  · rename_i hk
    intro h
    unfold aBin aEq at h
    rw [hk] at h
    cases op <;> exact h
  · rename_i hk
    intro h
    unfold aBin aEq at h
    rw [hk] at h
    cases op <;> exact h
  · cases hr
theorem nilTest_sound (hT : TyOk P C) {w : World} {rd} {op : BinOp} {xt : TypeId} {ρ : Operand → Value} {x y : Operand} {p q : AV} (hx : Rel w rd p (ρ x)) (hy : Rel w rd q (ρ y)) {pos : Bool} {es : List (List AV)} (hr : nilTest C op xt p q = some (pos, es)) :
    ∃ c : Bool, (es ≠ [] → c = !pos) ∧ (do eqGuard op xt x y (ρ x) (ρ y); binOp op xt (ρ x) (ρ y) : Sem Value).run P w = .ok (.bool c) w := by
  have main : ∀ (e : TypeId) (sh : Sh) (k : Nat), (C.T xt).kind = .slice e → sh.mayNil = true → Rel w rd (.sl sh k es) (ρ x) → Rel w rd .nils (ρ y) → (op = .eql ∧ pos = true) ∨ (op = .neq ∧ pos = false) →
      ∃ c : Bool, (es ≠ [] → c = !pos) ∧ (do eqGuard op xt x y (ρ x) (ρ y); binOp op xt (ρ x) (ρ y) : Sem Value).run P w = .ok (.bool c) w := by
    intro e sh k hk hsh h1 h2 hop
    simp only [Rel] at h1
    rcases h1 with ⟨_, he, hv⟩ | ⟨b, off, cap, hv, m2, m3, m4, m5⟩
    · rcases hv.cases with hv | ⟨a, hv⟩
      · have hb : aBin C op xt x y .nils .nils (· = .bool pos) := by
          unfold aBin aEq
          rw [hk]
          rcases hop with ⟨rfl, rfl⟩ | ⟨rfl, rfl⟩ <;> rfl
        obtain ⟨z, v, rfl, k2, k3⟩ := aBin_sound (P := P) hT (ρ := ρ) (by simp only [Rel]; exact hv) h2 hb
        simp only [Rel] at k2
        subst k2
        exact ⟨pos, fun h => absurd he h, k3⟩
      · have h2' : ρ y = .slice none 0 0 := by simpa only [Rel] using h2
        have hu := und_slice hT hk
        have hq : (Op.equal xt (ρ x) (ρ y)).run P w = .ok false w := by
          rw [hv, h2', equal_open]
          generalize 9999 = d
          simp [Op.equalIn, run_underlying hu]
        have hg : ∀ op, (eqGuard op xt x y (ρ x) (ρ y)).run P w = .ok () w := fun op => by
          rw [hv, h2']
          unfold eqGuard
          cases op <;> simp
        refine ⟨!pos, fun h => absurd he h, ?_⟩
        rw [hv, h2'] at hq hg ⊢
        rcases hop with ⟨rfl, rfl⟩ | ⟨rfl, rfl⟩
        · rw [show binOp .eql xt (.slice (some a) 0 0) (.slice none 0 0) = (do pure (.bool (← Op.equal xt (.slice (some a) 0 0) (.slice none 0 0)))) from rfl]
          simp [hg, hq]
        · rw [show binOp .neq xt (.slice (some a) 0 0) (.slice none 0 0) = (do pure (.bool (!(← Op.equal xt (.slice (some a) 0 0) (.slice none 0 0))))) from rfl]
          simp [hg, hq]
    · have hb : aBin C op xt x y (.sl .nn k es) .nils (· = .bool (!pos)) := by
        unfold aBin aEq
        rw [hk]
        rcases hop with ⟨rfl, rfl⟩ | ⟨rfl, rfl⟩ <;> rfl
      obtain ⟨z, v, rfl, k2, k3⟩ := aBin_sound (P := P) hT (ρ := ρ) (by simp only [Rel]; exact .inr ⟨b, off, cap, hv, m2, m3, trivial, m5⟩) h2 hb
      simp only [Rel] at k2
      subst k2
      exact ⟨!pos, fun _ => rfl, k3⟩
  unfold nilTest at hr
  split at hr
  · rename_i e k es' hk
    have : es' = es ∧ ((op = .eql ∧ pos = true) ∨ (op = .neq ∧ pos = false)) := by
      cases op <;> simp at hr <;> simp [hr.1, hr.2]
    obtain ⟨rfl, ho⟩ := this
    exact main e .any k hk rfl hx hy ho
  · rename_i e b k es' hk
    have : es' = es ∧ ((op = .eql ∧ pos = true) ∨ (op = .neq ∧ pos = false)) := by
      cases op <;> simp at hr <;> simp [hr.1, hr.2]
    obtain ⟨rfl, ho⟩ := this
    exact main e (.acc b) k hk rfl hx hy ho
  · cases hr
end
end Go.Proofs.YtdlgedpmbeafdaaGreatDoor.Aw

set_option linter.unusedVariables false
set_option linter.unusedSimpArgs false
namespace Go.Proofs.YtdlgedpmbeafdaaGreatDoor.Aw
open Go Go.RowKit

section
variable {P : Program} {C : Cx}
theorem aUn_sound {w : World} {rd} {op : UnOp} {p : AV} {x : Value} (hx : Rel w rd p x) {K : AV → Prop} (h : aUn op p K) : ∃ z v, K z ∧ Rel w rd z v ∧ (Op.unary op x).run P w = .ok v w := by
  unfold aUn at h
  split at h
  · simp only [Rel] at hx; subst hx
    exact ⟨_, _, h, by simp only [Rel]; rfl, by simp [Op.unary, Op.intArith]⟩
  · simp only [Rel] at hx; subst hx
    exact ⟨_, _, h, by simp only [Rel]; rfl, by simp [Op.unary]⟩
  · exact h.elim
theorem isU8_of (hT : TyOk P C) {te : TypeId} (h : isU8 C te = true) : P.underlying te = some (.int .u8) ∧ (C.T te).size = 1 := by
  unfold isU8 at h
  split at h
  · rename_i hk
    exact ⟨und_int hT hk, (Nat.eq_of_beq_eq_true h).symm⟩
  · cases h
theorem RelL_bytes (w : World) (rd) : ∀ l : List UInt8, RelL w rd (l.map fun b => [AV.int .u8 (b.toNat : Int)]).flatten (l.map fun b => Value.int .u8 b.toNat)
  | [] => by simp [RelL]
  | b :: l => by
    have := RelL_bytes w rd l
    simp only [List.map_cons, List.flatten_cons, List.cons_append, List.nil_append, RelL, Rel]
    exact ⟨_, _, rfl, rfl, this⟩
theorem RelL_bytes_inv (w : World) (rd) : ∀ (l : List UInt8) (vs : List Value), RelL w rd (l.map fun b => [AV.int .u8 (b.toNat : Int)]).flatten vs → vs = l.map fun b => Value.int .u8 b.toNat
  | [], vs, h => by simpa [RelL] using h
  | b :: l, vs, h => by
    simp only [List.map_cons, List.flatten_cons, List.cons_append, List.nil_append, RelL, Rel] at h
    obtain ⟨u, us, rfl, rfl, h2⟩ := h
    rw [RelL_bytes_inv w rd l us h2]; rfl
theorem rowsB_len (s : ByteArray) : (rowsB s).length = s.size := by
  unfold rowsB; rw [List.length_map, Array.length_toList]; rfl
theorem rowsB_one (s : ByteArray) : ∀ r ∈ rowsB s, r.length = 1 := by
  intro r hr
  unfold rowsB at hr
  obtain ⟨b, _, rfl⟩ := List.mem_map.1 hr
  rfl
theorem aConv_sound (hT : TyOk P C) {w : World} {S : St} (hg : Good C w S) {src dst : TypeId} {p : AV} {x : Value} (hx : Rel w (rdOf S) p x) {K : AV → Prop} (h : aConv C src dst p S K) :
    ∃ z v w', K z ∧ Rel w' (rdOf S) z v ∧ Good C w' S ∧ Adv w S w' S ∧ (convert src dst x).run P w = .ok v w' := by
  unfold aConv at h
  split at h
  · rename_i h1 h2
    simp only [Rel] at hx; subst hx
    exact ⟨_, _, w, h, by simp only [Rel]; rfl, hg, Adv.refl w S, by simp [convert, run_underlying (und_int hT h1), run_underlying (und_int hT h2), Conv.intToInt]⟩
  · rename_i h1 h2
    simp only [Rel] at hx; subst hx
    exact ⟨_, _, w, h, by simp only [Rel]; rfl, hg, Adv.refl w S, by simp [convert, run_underlying (und_str hT h1), run_underlying (und_str hT h2)]⟩
  · rename_i te s h1 h2
    rw [when_iff] at h
    obtain ⟨hu8, hlim, h⟩ := h
    obtain ⟨hu, hsz⟩ := isU8_of hT hu8
    simp only [Rel] at hx; subst hx
    have hrun := run_bytes_of_string (P := P) w src dst te s (und_str hT h1) (und_slice hT h2) hu
    have hge := grownCap_ge w s.size 0 te
    have hcm := grownCap_le_maxLen w s.size 0 te (by simp only [maxLen]; omega)
    generalize hcap : grownCap w s.size 0 te = cap at *
    have hadv : Adv w S (w.drew.alloc (.cells (bytesRow s cap) te ((bytesRow s cap).size, (bytesRow s cap).size + 1))) S := (Adv.refl w S).drew.trans (Adv.alloc (w := w.drew) _ hg.1.fresh)
    have hb : (w.drew.alloc (.cells (bytesRow s cap) te ((bytesRow s cap).size, (bytesRow s cap).size + 1))).heap[w.heap.size]? = some (.cells (bytesRow s cap) te ((bytesRow s cap).size, (bytesRow s cap).size + 1)) := heap_alloc_new w.drew _
    refine ⟨_, _, _, h, ?_, hg.mk (hg.1.drew.alloc _) hadv, hadv, hrun⟩
    simp only [Rel]
    refine .inr ⟨w.heap.size, 0, cap, by rw [rowsB_len], by rw [rowsB_len]; exact hge, hcm, trivial, ?_⟩
    refine RelRows.of_cells (rowsB_one s) (RelL_bytes _ _ _) (fun i v hv => ?_) (fun u hu => ?_) (fun i hi => ?_)
    · rw [Nat.zero_add, cell_of_row _ _ i _ te _ hb]
      have hi : i < (s.data.toList.map fun b => Value.int .u8 (b.toNat : Int)).length := by
        rcases Nat.lt_or_ge i (s.data.toList.map fun b => Value.int .u8 (b.toNat : Int)).length with h | h
        · exact h
        · rw [List.getElem?_eq_none h] at hv; cases hv
      unfold bytesRow
      rw [Array.getElem?_append_left (by simpa using hi)]
      simpa using hv
    · obtain ⟨_, _, rfl⟩ := List.mem_map.1 hu; rfl
    · simp only [rdOf, hg.1.fresh]
  · rename_i te sh k es h1 h2
    rw [when_iff, Bool.and_eq_true] at h
    obtain ⟨⟨hu8, hk1⟩, s, rfl, h⟩ := h
    have hk1 := Nat.eq_of_beq_eq_true hk1
    subst hk1
    obtain ⟨hu, hsz⟩ := isU8_of hT hu8
    refine ⟨_, .string s, w, h, by simp only [Rel], hg, Adv.refl w S, ?_⟩
    simp only [Rel] at hx
    rcases hx with ⟨_, he, hz⟩ | ⟨b, off, cap, rfl, k1, k2, k3, k4⟩
    · obtain ⟨ap, rfl⟩ := hz.slice
      have hs0 : s = ByteArray.empty := by
        have := congrArg List.length he
        rw [rowsB_len] at this
        have h0 : s.data.size = 0 := this
        cases s with
        | mk d => exact congrArg ByteArray.mk (Array.eq_empty_of_size_eq_zero h0)
      rw [run_convert_bytes_string w src dst te ap 0 0 (und_slice hT h1) hu (und_str hT h2), hs0]
      cases ap with
      | none => rfl
      | some a => simp [Conv.bytesToString]; rfl
    · obtain ⟨vs, m1, m2, m3, m4, m5⟩ := RelRows.cells k4
      have hvs := RelL_bytes_inv _ _ _ _ m1
      have hrun := run_convert_bytes_back (P := P) w src dst te ⟨b, off, none⟩ cap s.data.toList (und_slice hT h1) hu (und_str hT h2) (fun j hj => by
        rw [Addr.add_lit]
        refine m2 j _ ?_
        rw [hvs, List.getElem?_map, List.getElem?_eq_getElem hj]; rfl)
      rw [rowsB_len]
      have : s.data.toList.length = s.size := by rw [Array.length_toList]; rfl
      rw [this] at hrun
      simpa using hrun
  · rename_i te h1 h2
    rw [when_iff] at h
    obtain ⟨hu8, h⟩ := h
    obtain ⟨hu, hsz⟩ := isU8_of hT hu8
    simp only [Rel] at hx; subst hx
    refine ⟨_, .string ByteArray.empty, w, h, by simp only [Rel], hg, Adv.refl w S, ?_⟩
    rw [run_convert_bytes_string w src dst te none 0 0 (und_slice hT h1) hu (und_str hT h2)]
    rfl
  · exact h.elim
theorem fieldOf_some (hT : TyOk P C) {t : TypeId} {f off : Nat} {ft : TypeId} (h : fieldOf C t f = some (off, ft)) : ∃ fa fld, P.underlying t = some (.struct fa) ∧ fa[f]? = some fld ∧ fld.offset = off ∧ fld.type = ft := by
  unfold fieldOf at h
  split at h
  · rename_i fs hk
    obtain ⟨fa, hu, he⟩ := und_struct hT hk
    rw [← he] at h
    simp only [List.getElem?_map, Option.map_eq_some_iff, Prod.mk.injEq] at h
    obtain ⟨fld, h1, h2, h3⟩ := h
    exact ⟨fa, fld, hu, by simpa using h1, h2, h3⟩
  · cases h
theorem aFieldAddr_sound (hT : TyOk P C) {w : World} {rd} {t : TypeId} {f : Nat} {p : AV} {x : Value} (hx : Rel w rd p x) {K : AV → Prop} (h : aFieldAddr C t p f K) : ∃ z v, K z ∧ Rel w rd z v ∧ (Instr.fieldAt t x f).run P w = .ok v w := by
  unfold aFieldAddr at h
  split at h
  · rename_i off ft hf
    obtain ⟨fa, fld, hu, hfa, rfl, rfl⟩ := fieldOf_some hT hf
    rw [when_iff] at h
    obtain ⟨hk, h⟩ := h
    simp only [Bool.and_eq_true] at hk
    obtain ⟨hk, hp⟩ := hk
    have hpos : (C.T fld.type).size ≠ 0 := by
      have := Nat.le_of_ble_eq_true hp
      omega
    split at h
    · simp only [Rel] at hx; subst hx
      refine ⟨_, _, h, by simp only [Rel]; rfl, ?_⟩
      simp [Instr.fieldAt, run_underlying hu, hfa, Instr.sureAddr, fieldPlace, run_size hT hk, hpos, Addr.add_lit]
    · simp only [Rel] at hx
      obtain ⟨b, o, rfl, hr⟩ := hx
      refine ⟨_, .pointer (some ⟨b, o + fld.offset, none⟩), h, ?_, ?_⟩
      · simp only [Rel]
        exact ⟨b, o + fld.offset, rfl, RelAt.drop hr _⟩
      · simp [Instr.fieldAt, run_underlying hu, hfa, Instr.sureAddr, fieldPlace, run_size hT hk, hpos, Addr.add_lit]
    · exact h.elim
  · exact h.elim
theorem aField_sound (hT : TyOk P C) {w : World} {rd} {t : TypeId} {f : Nat} {p : AV} {x : Value} (hx : Rel w rd p x) {K : AV → Prop} (h : aField C t p f K) : ∃ z v, K z ∧ Rel w rd z v ∧ (Instr.field t x f).run P w = .ok v w := by
  unfold aField at h
  split at h
  · rename_i off ft xs hf
    obtain ⟨fa, fld, hu, hfa, rfl, rfl⟩ := fieldOf_some hT hf
    rw [when_iff] at h
    obtain ⟨hk, h⟩ := h
    simp only [Rel] at hx
    obtain ⟨cs, rfl, h1, h2⟩ := hx
    obtain ⟨z, v, k1, k2, k3⟩ := aPart_part hT hk h1 h2 h
    exact ⟨z, v, k1, k3, by simp [Instr.field, run_underlying hu, hfa, asAgg, k2]⟩
  · exact h.elim
theorem aIndexAddr_sound (hT : TyOk P C) {w : World} {rd} {t : TypeId} {p q : AV} {x y : Value} (hx : Rel w rd p x) (hy : Rel w rd q y) {K : AV → Prop} (h : aIndexAddr C t p q K) : ∃ z v, K z ∧ Rel w rd z v ∧ (Instr.indexAt t x y).run P w = .ok v w := by
  unfold aIndexAddr at h
  split at h
  · rename_i e sh k es kk n hk
    rw [when_iff] at h
    obtain ⟨hke, r, ⟨h0, hr⟩, h⟩ := h
    simp only [Bool.and_eq_true] at hke
    obtain ⟨hke, hsz⟩ := hke
    have hsz := Nat.eq_of_beq_eq_true hsz
    simp only [Rel] at hx hy
    subst hy
    have hlt : n.toNat < es.length := by
      rcases Nat.lt_or_ge n.toNat es.length with h' | h'
      · exact h'
      · rw [List.getElem?_eq_none h'] at hr; cases hr
    rcases hx with ⟨_, rfl, _⟩ | ⟨b, off, cap, rfl, h1, h2, h3, h4⟩
    · simp at hlt
    · have hrow := RelRows.get h4 n.toNat r hr
      refine ⟨_, .pointer (some ⟨b, off + n.toNat * k, none⟩), h, ?_, ?_⟩
      · simp only [Rel]; exact ⟨b, _, rfl, hrow.2⟩
      · have h0n : 0 ≤ n ∧ n < (es.length : Int) := ⟨h0, by omega⟩
        simp [Instr.indexAt, asIntOf, run_underlying (und_slice hT hk), h0n, run_size hT hke, hsz, Addr.add_lit]
  · rename_i e b off m cap kk n hk
    rw [when_iff] at h
    obtain ⟨hke, h0, h⟩ := h
    simp only [Rel] at hx hy
    subst hx; subst hy
    refine ⟨_, .pointer (some ⟨b, off + n.toNat * (C.T e).size, none⟩), h, by simp only [Rel], ?_⟩
    simp [Instr.indexAt, asIntOf, run_underlying (und_slice hT hk), h0, run_size hT hke, Addr.add_lit]
  · exact h.elim
theorem aIndex_sound (hT : TyOk P C) {w : World} {rd} {t : TypeId} {p q : AV} {x y : Value} (hx : Rel w rd p x) (hy : Rel w rd q y) {K : AV → Prop} (h : aIndex C t p q K) : ∃ z v, K z ∧ Rel w rd z v ∧ (Instr.index t x y).run P w = .ok v w := by
  unfold aIndex at h
  split at h
  · rename_i s kk n hk
    obtain ⟨⟨h0, h1⟩, h⟩ := h
    simp only [Rel] at hx hy
    subst hx; subst hy
    refine ⟨_, .int .u8 (byteAt s n.toNat), h, by simp only [Rel], ?_⟩
    have hlt : n.toNat < s.size := by omega
    have hg : s[n.toNat]? = some s[n.toNat] := by simp [hlt]
    have hb : ((s[n.toNat].toNat : Nat) : Int) = byteAt s n.toNat := by
      unfold byteAt
      have hl : n.toNat < s.data.toList.length := by simpa using hlt
      rw [List.getD_eq_getElem?_getD, List.getElem?_eq_getElem hl]
      rfl
    simp [Instr.index, asIntOf, run_underlying (und_str hT hk), h0, hg, hb]
  · exact h.elim
theorem run_sliceBounds (w : World) {S0 : Bool} {len cap : Nat} {lo hi : Option Value} {l h : Int}
    (hl : lo = none ∧ l = 0 ∨ ∃ k, lo = some (.int k l)) (hh : hi = none ∧ h = len ∨ ∃ k, hi = some (.int k h)) (h0 : 0 ≤ l) (h1 : l ≤ h) (h2 : h ≤ cap) :
    (Instr.sliceBounds S0 len cap lo hi none).run P w = .ok (l.toNat, h.toNat, cap) w := by
  have hh0 : 0 ≤ h := by omega
  have hlh : l ≤ (h.toNat : Int) := by omega
  rcases hl with ⟨rfl, rfl⟩ | ⟨k, rfl⟩ <;> rcases hh with ⟨rfl, rfl⟩ | ⟨k', rfl⟩ <;> simp [Instr.sliceBounds, Instr.sliceBound, asIntOf, h0, h2, hlh, hh0]
  all_goals (try omega)
theorem optN_sound {w : World} {rd} {d : Nat} {p : Option AV} {x : Option Value} (h : p = none ∧ x = none ∨ ∃ a v, p = some a ∧ x = some v ∧ Rel w rd a v) {l : Int} (hl : optN d p = some l) :
    x = none ∧ l = d ∨ ∃ k, x = some (.int k l) := by
  rcases h with ⟨rfl, rfl⟩ | ⟨a, v, rfl, rfl, hr⟩
  · simp only [optN, Option.some.injEq] at hl
    exact .inl ⟨rfl, hl.symm⟩
  · cases a <;> simp only [optN, Option.some.injEq, reduceCtorEq] at hl
    subst hl
    simp only [Rel] at hr
    exact .inr ⟨_, by rw [hr]⟩
def OptRel (w : World) (rd : Nat → Nat → Prop) (p : Option AV) (x : Option Value) : Prop := p = none ∧ x = none ∨ ∃ a v, p = some a ∧ x = some v ∧ Rel w rd a v
theorem aSlice_sound (hT : TyOk P C) {w : World} {rd} {t : TypeId} {p : AV} {x : Value} (hx : Rel w rd p x) {lo hi mx : Option AV} {vlo vhi vmx : Option Value} (hlo : OptRel w rd lo vlo) (hhi : OptRel w rd hi vhi) (hmx : OptRel w rd mx vmx)
    {K : AV → Prop} (h : aSlice C t p lo hi mx K) : ∃ z v, K z ∧ Rel w rd z v ∧ (Instr.sliceAt t x vlo vhi vmx).run P w = .ok v w := by
  unfold aSlice at h
  split at h
  · -- a string
    rename_i s hk
    have hu := und_str hT hk
    simp only [Rel] at hx; subst hx
    obtain rfl : vmx = none := by rcases hmx with ⟨_, rfl⟩ | ⟨_, _, h, _⟩; rfl; cases h
    split at h
    · rename_i l h' hl hh
      obtain ⟨⟨h0, h1, h2⟩, h⟩ := h
      have hb := run_sliceBounds (P := P) (S0 := false) (len := s.size) (cap := s.size) w (optN_sound hlo hl) (optN_sound hhi hh) h0 h1 h2
      exact ⟨_, _, h, by simp only [Rel]; rfl, by simp [Instr.sliceAt, Instr.slice, run_underlying hu, hb]⟩
    · exact h.elim
  · -- a slice
    rename_i e sh k es hk
    have hu := und_slice hT hk
    obtain rfl : vmx = none := by rcases hmx with ⟨_, rfl⟩ | ⟨_, _, h, _⟩; rfl; cases h
    rw [when_iff] at h
    obtain ⟨hke, h⟩ := h
    simp only [Bool.and_eq_true] at hke
    obtain ⟨hke, hsz⟩ := hke
    have hsz := Nat.eq_of_beq_eq_true hsz
    split at h
    · rename_i l h' hl hh
      obtain ⟨⟨h0, h1, h2⟩, h⟩ := h
      simp only [Rel] at hx
      have elen : ((es.take h'.toNat).drop l.toNat).length = h'.toNat - l.toNat := by
        rw [List.length_drop, List.length_take]; omega
      rcases hx with ⟨hmn, rfl, hz⟩ | ⟨b, off, cap, rfl, k1, k2, k3, k4⟩
      · have hzl : NilV sh.less x := by
          rcases hz with hz | ⟨rfl, hz⟩
          · exact .inl hz
          · exact .inr ⟨rfl, hz⟩
        obtain ⟨ap, rfl⟩ := hz.slice
        have hb := run_sliceBounds (P := P) (S0 := true) (len := 0) (cap := 0) w (optN_sound hlo hl) (optN_sound hhi hh) h0 h1 (by simpa using h2)
        simp only [List.length_nil] at h2
        have e1 : l = 0 := by omega
        have e2 : h' = 0 := by omega
        subst e1; subst e2
        refine ⟨_, .slice ap 0 0, h, ?_, by cases ap <;> simp [Instr.sliceAt, Instr.slice, run_underlying hu, hb, run_size hT hke]⟩
        simp only [Rel]; exact .inl ⟨by cases sh <;> simp_all [Sh.mayNil, Sh.less], by simp, hzl⟩
      · have hb := run_sliceBounds (P := P) (S0 := true) (len := es.length) (cap := cap) w (optN_sound hlo hl) (optN_sound hhi hh) h0 h1 (by omega)
        have hrows : RelRows w rd k b (off + l.toNat * k) ((es.take h'.toNat).drop l.toNat) := RelRows.drop (RelRows.take k4 _) _
        by_cases hc : cap = l.toNat
        · have hz : h'.toNat - l.toNat = 0 := by omega
          have hnil : (es.take h'.toNat).drop l.toNat = [] := List.eq_nil_of_length_eq_zero (by rw [elen, hz])
          refine ⟨_, .slice (some ⟨b, off, none⟩) (h'.toNat - l.toNat) (cap - l.toNat), h, ?_, by rw [hc] at hb ⊢; simp [Instr.sliceAt, Instr.slice, run_underlying hu, hb, run_size hT hke]⟩
          rw [hnil]
          simp only [Rel]
          refine .inr ⟨b, off, cap - l.toNat, by rw [hz]; rfl, by simp, by omega, ?_, by simp [RelRows]⟩
          cases sh <;> simp [ShOk, Sh.less]
        · refine ⟨_, .slice (some ⟨b, off + l.toNat * k, none⟩) (h'.toNat - l.toNat) (cap - l.toNat), h, ?_, by simp [Instr.sliceAt, Instr.slice, run_underlying hu, hb, run_size hT hke, hc, hsz, Addr.add_lit]⟩
          simp only [Rel]
          refine .inr ⟨b, off + l.toNat * k, cap - l.toNat, by rw [elen], by rw [elen]; omega, by omega, ?_, hrows⟩
          cases sh <;> simp [ShOk, Sh.less]
    · exact h.elim
  · -- [:0:0]
    rename_i e sh k es m hk
    have hu := und_slice hT hk
    rw [when_iff] at h
    obtain ⟨hke, h⟩ := h
    simp only [Bool.and_eq_true] at hke
    obtain ⟨hke, hsz⟩ := hke
    split at h
    · rename_i k1 k2
      obtain rfl : vlo = none := by rcases hlo with ⟨_, h⟩ | ⟨_, _, h, _⟩; exact h; cases h
      obtain ⟨v, rfl, hv⟩ : ∃ v, vmx = some v ∧ Rel w rd (.int k2 0) v := by
        rcases hmx with ⟨h, _⟩ | ⟨a, v, h, h', h''⟩
        · cases h
        · cases h; exact ⟨v, h', h''⟩
      obtain ⟨v', rfl, hv'⟩ : ∃ v, vhi = some v ∧ Rel w rd (.int k1 0) v := by
        rcases hhi with ⟨h, _⟩ | ⟨a, v, h, h', h''⟩
        · cases h
        · cases h; exact ⟨v, h', h''⟩
      simp only [Rel] at hv hv'; subst hv; subst hv'
      have hb : ∀ len cap : Nat, (Instr.sliceBounds true len cap none (some (.int k1 0)) (some (.int k2 0))).run P w = .ok (0, 0, 0) w := fun len cap => by
        simp [Instr.sliceBounds, Instr.sliceBound, asIntOf]
      simp only [Rel] at hx
      rcases hx with ⟨hmn, rfl, hz⟩ | ⟨b, off, cap, rfl, k1, k2, k3, k4⟩
      · have hza : NilV .any x := hz.imp id fun hz => ⟨rfl, hz.2⟩
        obtain ⟨ap, rfl⟩ := hz.slice
        exact ⟨_, .slice ap 0 0, h, by cases sh <;> simp_all [Rel, Sh.mayNil], by cases ap <;> simp [Instr.sliceAt, Instr.slice, run_underlying hu, hb, run_size hT hke]⟩
      · refine ⟨_, .slice (some ⟨b, off, none⟩) 0 0, h, ?_, by simp [Instr.sliceAt, Instr.slice, run_underlying hu, hb, run_size hT hke]⟩
        cases sh <;> simp only [Rel] <;> exact .inr ⟨b, off, 0, rfl, by simp, by simp, by simp [ShOk], by simp [RelRows]⟩
    · exact h.elim
  · -- a row that may be written
    rename_i e b off n cap hk
    have hu := und_slice hT hk
    obtain rfl : vmx = none := by rcases hmx with ⟨_, rfl⟩ | ⟨_, _, h, _⟩; rfl; cases h
    rw [when_iff] at h
    obtain ⟨hke, h⟩ := h
    split at h
    · rename_i l h' hl hh
      obtain ⟨⟨h0, h1, h2⟩, h⟩ := h
      simp only [Rel] at hx; subst hx
      have hb := run_sliceBounds (P := P) (S0 := true) (len := n) (cap := cap) w (optN_sound hlo hl) (optN_sound hhi hh) h0 h1 h2
      refine ⟨_, _, h, by simp only [Rel]; rfl, ?_⟩
      by_cases hc : cap = l.toNat
      · have hbq : Nat.beq cap l.toNat = true := by rw [hc]; exact Nat.beq_refl _
        rw [hbq]
        rw [hc] at hb ⊢
        simp [Instr.sliceAt, Instr.slice, run_underlying hu, hb, run_size hT hke]
      · have hbq : Nat.beq cap l.toNat = false := by
          cases e : Nat.beq cap l.toNat with
          | false => rfl
          | true => exact absurd (Nat.eq_of_beq_eq_true e) hc
        rw [hbq]
        simp [Instr.sliceAt, Instr.slice, run_underlying hu, hb, run_size hT hke, hc, Addr.add_lit]
    · exact h.elim
  · -- nil
    rename_i e hk
    have hu := und_slice hT hk
    obtain rfl : vmx = none := by rcases hmx with ⟨_, rfl⟩ | ⟨_, _, h, _⟩; rfl; cases h
    rw [when_iff] at h
    obtain ⟨hke, h⟩ := h
    simp only [Rel] at hx; subst hx
    split at h
    · rename_i l h' hl hh
      obtain ⟨⟨rfl, rfl⟩, h⟩ := h
      have hb := run_sliceBounds (P := P) (S0 := true) (len := 0) (cap := 0) w (optN_sound hlo hl) (optN_sound hhi hh) (Int.le_refl _) (Int.le_refl _) (by simp)
      exact ⟨_, .slice none 0 0, h, by simp only [Rel], by simp [Instr.sliceAt, Instr.slice, run_underlying hu, hb, run_size hT hke]⟩
    · exact h.elim
  · rename_i e m hk
    have hu := und_slice hT hk
    rw [when_iff] at h
    obtain ⟨hke, h⟩ := h
    simp only [Rel] at hx; subst hx
    split at h
    · rename_i k1 k2
      obtain rfl : vlo = none := by rcases hlo with ⟨_, h⟩ | ⟨_, _, h, _⟩; exact h; cases h
      obtain ⟨v, rfl, hv⟩ : ∃ v, vmx = some v ∧ Rel w rd (.int k2 0) v := by
        rcases hmx with ⟨h, _⟩ | ⟨a, v, h, h', h''⟩
        · cases h
        · cases h; exact ⟨v, h', h''⟩
      obtain ⟨v', rfl, hv'⟩ : ∃ v, vhi = some v ∧ Rel w rd (.int k1 0) v := by
        rcases hhi with ⟨h, _⟩ | ⟨a, v, h, h', h''⟩
        · cases h
        · cases h; exact ⟨v, h', h''⟩
      simp only [Rel] at hv hv'; subst hv; subst hv'
      have hb : ∀ len cap : Nat, (Instr.sliceBounds true len cap none (some (.int k1 0)) (some (.int k2 0))).run P w = .ok (0, 0, 0) w := fun len cap => by
        simp [Instr.sliceBounds, Instr.sliceBound, asIntOf]
      exact ⟨_, .slice none 0 0, h, by simp only [Rel], by simp [Instr.sliceAt, Instr.slice, run_underlying hu, hb, run_size hT hke]⟩
    · exact h.elim
  · exact h.elim
theorem aLen_sound (hT : TyOk P C) {w : World} {S : St} (hi : Inv w S) {t ty : TypeId} {p : AV} {x : Value} (hx : Rel w (rdOf S) p x) {K : AV → Prop} (h : aLen C t p S K) : ∃ z v, K z ∧ Rel w (rdOf S) z v ∧ (Builtin.len_ #[t] ty #[x]).run P w = .ok v w := by
  unfold aLen at h
  split at h
  · rename_i s hk
    simp only [Rel] at hx; subst hx
    exact ⟨_, _, h, by simp only [Rel]; rfl, by simp [Builtin.len_, run_underlying (und_str hT hk), goInt]⟩
  · rename_i e sh k es hk
    simp only [Rel] at hx
    rcases hx with ⟨hmn, rfl, hz⟩ | ⟨b, off, cap, rfl, k1, k2, k3, k4⟩
    · obtain ⟨ap, rfl⟩ := hz.slice
      exact ⟨_, _, h (by simp), by simp only [Rel]; rfl, by simp [Builtin.len_, run_underlying (und_slice hT hk), goInt]⟩
    · refine ⟨_, _, h (by simp only [maxLen] at k2; omega), by simp only [Rel]; rfl, by simp [Builtin.len_, run_underlying (und_slice hT hk), goInt]⟩
  · rename_i e hk
    simp only [Rel] at hx; subst hx
    exact ⟨_, _, h, by simp only [Rel]; rfl, by simp [Builtin.len_, run_underlying (und_slice hT hk), goInt]⟩
  · rename_i e b off m cap hk
    simp only [Rel] at hx; subst hx
    exact ⟨_, _, h, by simp only [Rel]; rfl, by simp [Builtin.len_, run_underlying (und_slice hT hk), goInt]⟩
  · rename_i k e hk
    simp only [Rel] at hx; subst hx
    exact ⟨_, _, h, by simp only [Rel]; rfl, by simp [Builtin.len_, run_underlying (und_map hT hk), goInt]⟩
  · rename_i k e r hk
    obtain ⟨es, hS, h⟩ := h
    simp only [Rel] at hx; subst hx
    obtain ⟨ms, c, h1, h2, _⟩ := hi r _ hS
    have hlen : es.length = ms.size := by simpa using RelL.length h2
    refine ⟨_, .int .i64 (es.length : Int), h, by simp only [Rel], ?_⟩
    have hgo : (getObj r).run P w = .ok (.map ms c) w := by simp [getObj, Sem.run, h1]
    simp [Builtin.len_, run_underlying (und_map hT hk), goInt, hgo, hlen]
  · exact h.elim
end
end Go.Proofs.YtdlgedpmbeafdaaGreatDoor.Aw

set_option linter.unusedVariables false
set_option linter.unusedSimpArgs false
namespace Go.Proofs.YtdlgedpmbeafdaaGreatDoor.Aw
open Go Go.RowKit

section
variable {P : Program} {C : Cx}
theorem obj_cells {w : World} {S : St} (hi : Inv w S) {b : Nat} {e : TypeId} {cells : List AV} (hS : S b = some (.obj e cells)) :
    ∃ cs : Array Value, w.heap[b]? = some (.cells cs e (0, 0)) ∧ RelL w (rdOf S) cells cs.toList ∧ (∀ v ∈ cs.toList, v.oneCell' = true) ∧ CellsAt w b 0 cs.toList := by
  obtain ⟨cs, h1, h2, h3⟩ := hi b _ hS
  refine ⟨cs, h1, h2, h3, fun i v hv => ?_⟩
  rw [Nat.zero_add, cell_of_row w b i cs e (0, 0) h1]
  simpa using hv
theorem aLoad_sound (hT : TyOk P C) {w : World} {S : St} (hi : Inv w S) {t : TypeId} {p : AV} {x : Value} (hx : Rel w (rdOf S) p x) {K : AV → Prop} (h : aLoad C t p S K) :
    ∃ z v, K z ∧ Rel w (rdOf S) z v ∧ (Instr.loadAt t x).run P w = .ok v w := by
  unfold aLoad at h
  split at h
  · rw [when_iff] at h
    obtain ⟨hk, h⟩ := h
    simp only [Rel] at hx
    obtain ⟨b, off, rfl, hr⟩ := hx
    obtain ⟨vs, h1, h2, h3, _⟩ := RelAt.cells hr
    obtain ⟨z, v, k1, k2, k3⟩ := aPart_load (P := P) hT hk h1 h2 h3 h
    exact ⟨z, v, k1, k3, by simpa [Instr.loadAt, Instr.sureAddr] using k2⟩
  · rw [when_iff] at h
    obtain ⟨hk, e, cells, hS, h⟩ := h
    simp only [Rel] at hx
    subst hx
    obtain ⟨cs, h1, h2, h3, h4⟩ := obj_cells hi hS
    obtain ⟨z, v, k1, k2, k3⟩ := aPart_load (P := P) hT hk h2 h4 h3 h
    exact ⟨z, v, k1, k3, by simpa [Instr.loadAt, Instr.sureAddr] using k2⟩
  · exact h.elim
theorem aStore_sound (hT : TyOk P C) {w : World} {S : St} (hg : Good C w S) {t : TypeId} {p q : AV} {x y : Value} (hx : Rel w (rdOf S) p x) (hy : Rel w (rdOf S) q y) {K : St → Prop} (h : aStore C t p q S K) :
    ∃ w' S', K S' ∧ Good C w' S' ∧ Adv w S w' S' ∧ (Instr.storeAt t x y).run P w = .ok () w' := by
  unfold aStore at h
  split at h
  · rename_i b off
    rw [when_iff] at h
    obtain ⟨hk, e, cells, hS, h⟩ := h
    rw [when_iff, forceL_eq] at h
    obtain ⟨hl, h⟩ := h
    simp only [Bool.and_eq_true] at hk
    obtain ⟨hk, ho, hsz⟩ := hk
    have hsz := Nat.eq_of_beq_eq_true hsz
    have hl := Nat.le_of_ble_eq_true hl
    simp only [Rel] at hx; subst hx
    obtain ⟨cs, h1, h2, h3, h4⟩ := obj_cells hg.1 hS
    obtain ⟨m1, m2⟩ := RelL_cellsOf hy ho
    have hlen := RelL.length m1
    have hclen := RelL.length h2
    have hcs : cs.size = cells.length := by simpa using hclen.symm
    have hst := run_storeCells_at P b off e y.cells.toList 0 cs w h1 (by rw [← hlen, hsz, hcs]; simpa using hl) m2
    have hysz : y.cells.size = (C.T t).size := by rw [← hsz, hlen]; simp
    simp only [Nat.add_zero] at hst
    have hsame : (cs.toList.take off ++ y.cells.toList ++ cs.toList.drop (off + y.cells.toList.length)).toArray.size = cs.size := by
      simp only [List.size_toArray, List.length_append, List.length_take, List.length_drop, Array.length_toList]
      rw [hysz, hcs]; omega
    have hadv := Adv.setRow (cells' := setRange cells off (cellsOf q)) hS h1 hsame
    refine ⟨_, _, h, hg.mk ?_ hadv, hadv, ?_⟩
    · intro b' o ho'
      by_cases hb : b' = b
      · subst hb
        rw [St.upd_same] at ho'
        cases ho'
        refine ⟨_, setRow_heap w b' cs _ e (0, 0) h1, ?_, ?_⟩
        · have := RelL.setRange (off := off) (RelL.mono hadv _ _ m1) (RelL.mono hadv _ _ h2) (by rw [hsz]; exact hl)
          simpa using this
        · intro u hu
          simp only [List.mem_append] at hu
          rcases hu with (hu | hu) | hu
          · exact h3 u (List.mem_of_mem_take hu)
          · exact m2 u hu
          · exact h3 u (List.mem_of_mem_drop hu)
      · rw [St.upd_ne _ _ _ _ hb] at ho'
        exact OwnOk.mono hadv (setRow_other w b b' _ hb) (hg.1 b' o ho')
    · simp only [Instr.storeAt, Instr.sureAddr, storeVar, Sem.run_bind, run_size hT hk, Result.andThen_ok, Sem.run_pure]
      rw [if_neg (by simp [hysz])]
      exact hst
  · exact h.elim
/-- A new row of cells. -/
theorem newObj_sound {w : World} {S : St} (hg : Good C w S) {e : TypeId} {cells : List AV} {cs : Array Value} (hr : RelL w (rdOf S) cells cs.toList) (h1 : ∀ v ∈ cs.toList, v.oneCell' = true) :
    S w.heap.size = none ∧ Good C (w.alloc (.cells cs e)) (S.upd w.heap.size (.obj e cells)) ∧ Adv w S (w.alloc (.cells cs e)) (S.upd w.heap.size (.obj e cells)) := by
  have hS := hg.1.fresh
  have hadv := Adv.allocOwn (.cells cs e) (.obj e cells) hS
  refine ⟨hS, hg.mk (hg.1.allocOwn _ _ ⟨cs, heap_alloc_new w _, RelL.mono hadv _ _ hr, h1⟩) hadv, hadv⟩
theorem foldl_set (off : Nat) : ∀ (l : List Value) (k : Nat) (cs : Array Value), off + k + l.length ≤ cs.size →
    (((l.zipIdx k).foldl (fun cs (x : Value × Nat) => cs.setIfInBounds (off + x.2) x.1) cs).toList = cs.toList.take (off + k) ++ l ++ cs.toList.drop (off + k + l.length))
  | [], k, cs, h => by simp
  | v :: l, k, cs, h => by
    have hi : off + k < cs.size := by simp at h; omega
    rw [List.zipIdx_cons, List.foldl_cons]
    have := foldl_set off l (k + 1) (cs.setIfInBounds (off + k) v) (by simp at h ⊢; omega)
    rw [this]
    have e1 : (cs.setIfInBounds (off + k) v).toList = cs.toList.set (off + k) v := by simp
    rw [e1]
    have e2 : (cs.toList.set (off + k) v).take (off + (k + 1)) = cs.toList.take (off + k) ++ [v] := by
      rw [← Nat.add_assoc, List.take_add_one, List.take_set_of_le (Nat.le_refl _)]
      simp [List.getElem?_set, hi]
    have e3 : (cs.toList.set (off + k) v).drop (off + (k + 1) + l.length) = cs.toList.drop (off + k + (v :: l).length) := by
      rw [List.drop_set_of_lt (by omega)]
      simp
      congr 1
      omega
    rw [e2, e3]
    simp
theorem aFill_sound {w : World} {rd} (place : Nat → Option (Nat × Nat)) : ∀ (parts : List (Nat × AV)) (vparts : List (Nat × Value)) (cells : List AV) (cs : Array Value) (out : List AV),
    RelL w rd (parts.map (·.2)) (vparts.map (·.2)) → parts.map (·.1) = vparts.map (·.1) → RelL w rd cells cs.toList → (∀ v ∈ cs.toList, v.oneCell' = true) → aFill place cells parts = some out →
    ∃ cs', Instr.fill place cs vparts = some cs' ∧ RelL w rd out cs'.toList ∧ (∀ v ∈ cs'.toList, v.oneCell' = true)
  | [], vparts, cells, cs, out, hp, hi, hr, h1, h => by
    simp only [aFill, Option.some.injEq] at h
    subst h
    cases vparts with
    | nil => exact ⟨cs, rfl, hr, h1⟩
    | cons => simp at hi
  | (i, x) :: r, vparts, cells, cs, out, hp, hi, hr, h1, h => by
    cases vparts with
    | nil => simp at hi
    | cons vp vr =>
      obtain ⟨j, v⟩ := vp
      simp only [List.map_cons, List.cons.injEq] at hi
      obtain ⟨rfl, hi⟩ := hi
      simp only [List.map_cons, RelL] at hp
      obtain ⟨u, us, he, hx, hp⟩ := hp
      simp only [List.cons.injEq] at he
      obtain ⟨rfl, rfl⟩ := he
      simp only [aFill] at h
      cases hpl : place i with
      | none => rw [hpl] at h; cases h
      | some q =>
        obtain ⟨off, size⟩ := q
        rw [hpl] at h
        simp only [cond_eq_ite, Bool.and_eq_true] at h
        split at h
        · rename_i hc
          obtain ⟨ho, hs, hl⟩ := hc
          have hs := Nat.eq_of_beq_eq_true hs
          have hl := Nat.le_of_ble_eq_true hl
          obtain ⟨m1, m2⟩ := RelL_cellsOf hx ho
          have hlen := RelL.length m1
          have hclen := RelL.length hr
          have hcs : cs.size = cells.length := by simpa using hclen.symm
          have hvsz : v.cells.size = size := by rw [← hs, hlen]; simp
          have hfold : ((v.cells.zipIdx.foldl (fun cs (x : Value × Nat) => cs.setIfInBounds (off + x.2) x.1) cs).toList = cs.toList.take off ++ v.cells.toList ++ cs.toList.drop (off + v.cells.toList.length)) := by
            have := foldl_set off v.cells.toList 0 cs (by simp [hvsz, hcs]; exact hl)
            simp only [Nat.add_zero] at this
            rw [← this, ← Array.foldl_toList, Array.toList_zipIdx]
          have hnew : RelL w rd (setRange cells off (cellsOf x)) (v.cells.zipIdx.foldl (fun cs (x : Value × Nat) => cs.setIfInBounds (off + x.2) x.1) cs).toList := by
            rw [hfold]
            exact RelL.setRange m1 hr (by rw [hs]; exact hl)
          have hnew1 : ∀ u ∈ (v.cells.zipIdx.foldl (fun cs (x : Value × Nat) => cs.setIfInBounds (off + x.2) x.1) cs).toList, u.oneCell' = true := by
            rw [hfold]
            intro u hu
            simp only [List.mem_append] at hu
            rcases hu with (hu | hu) | hu
            · exact h1 u (List.mem_of_mem_take hu)
            · exact m2 u hu
            · exact h1 u (List.mem_of_mem_drop hu)
          obtain ⟨cs', k1, k2, k3⟩ := aFill_sound place r vr _ _ out hp hi hnew hnew1 h
          refine ⟨cs', ?_, k2, k3⟩
          simp only [Instr.fill, hpl]
          rw [if_neg (by simp [hvsz, hcs]; omega)]
          exact k1
        · cases h
theorem places_of (hT : TyOk P C) : ∀ (fs : List Field), (fs.all fun f => known C f.type) = true → fs.mapM (fun f => (P.info? f.type).map fun i => (f.offset, i.size)) = some (fs.map fun f => (f.offset, (C.T f.type).size))
  | [], _ => rfl
  | f :: fs, h => by
    simp only [List.all_cons, Bool.and_eq_true] at h
    obtain ⟨i, d, hi, hs, _⟩ := ty_info hT h.1
    simp [List.mapM_cons, hi, hs, places_of hT fs h.2]
theorem zero_sound (hT : TyOk P C) {t : TypeId} (hk : known C t = true) (w : World) (rd) :
    (zeroValue t).run P w = .ok (C.T t).zero w ∧ RelL w rd (cellsOf (ofV (C.T t).zero)) (C.T t).zero.cells.toList ∧ (∀ v ∈ (C.T t).zero.cells.toList, v.oneCell' = true) ∧ (C.T t).zero.cells.size = (C.T t).size := by
  obtain ⟨i, d, hi, hs, hb, hz, hd, hk', h1, h2⟩ := ty_info hT hk
  have h3 : ∀ v ∈ (C.T t).zero.cells.toList, v.oneCell' = true := fun v hv => List.all_eq_true.1 h2 v hv
  refine ⟨by simp [zeroValue, typeInfo, hi, hz], ?_, h3, h1⟩
  have hr := Rel_ofV w rd (C.T t).zero
  have hok : okCells (ofV (C.T t).zero) = true ∨ ∃ v, (C.T t).zero = v ∧ v.cells = #[v] ∧ cellsOf (ofV v) = [ofV v] := by
    cases hz : (C.T t).zero with
    | agg cs =>
      left
      rw [hz] at h2
      simp only [ofV]
      rw [if_pos (by simpa [Value.cells] using h2)]; rfl
    | _ => 
      right
      refine ⟨_, rfl, rfl, ?_⟩
      simp only [ofV]
      unfold ofV0
      split <;> rfl
  rcases hok with hok | ⟨v, e1, e2, e3⟩
  · exact (RelL_cellsOf hr hok).1
  · rw [e1] at hr ⊢
    rw [e2, e3]
    simp only [RelL]
    exact ⟨v, [], rfl, hr, rfl⟩
theorem rows_len {k : Nat} : ∀ (cells : List AV) (n : Nat), cells.length = n * k → (∀ e ∈ rowsOf k cells n, e.length = k) ∧ (rowsOf k cells n).flatten = cells ∧ (rowsOf k cells n).length = n
  | cells, 0, h => by simp at h; subst h; simp [rowsOf]
  | cells, n + 1, h => by
    rw [Nat.succ_mul] at h
    obtain ⟨h1, h2, h3⟩ := rows_len (k := k) (cells.drop k) n (by rw [List.length_drop]; omega)
    refine ⟨fun e he => ?_, ?_, by simp [rowsOf, h3]⟩
    · simp only [rowsOf, List.mem_cons] at he
      rcases he with rfl | he
      · rw [List.length_take]; omega
      · exact h1 e he
    · simp only [rowsOf, List.flatten_cons, h2, List.take_append_drop]
theorem RelL.of_get {w : World} {rd} : ∀ {xs : List AV} {vs : List Value}, xs.length = vs.length → (∀ (i : Nat) (x : AV) (v : Value), xs[i]? = some x → vs[i]? = some v → Rel w rd x v) → RelL w rd xs vs
  | [], vs, hl, h => by simp only [RelL]; exact List.eq_nil_of_length_eq_zero (by simpa using hl.symm)
  | x :: xs, [], hl, h => by simp at hl
  | x :: xs, v :: vs, hl, h => by
    simp only [RelL]
    exact ⟨v, vs, rfl, h 0 x v rfl rfl, RelL.of_get (by simpa using hl) fun i x' v' h1 h2 => h (i + 1) x' v' (by simpa using h1) (by simpa using h2)⟩
theorem mulL_get {k : Nat} {xs : List AV} : ∀ (n i : Nat), i < n * xs.length → (mulL k xs n)[i]? = xs[i % xs.length]?
  | 0, i, h => by simp at h
  | n + 1, i, h => by
    simp only [mulL]
    rw [Nat.succ_mul] at h
    by_cases hi : i < xs.length
    · rw [List.getElem?_append_left hi, Nat.mod_eq_of_lt hi]
    · rw [List.getElem?_append_right (by omega), mulL_get n (i - xs.length) (by omega)]
      congr 1
      rw [Nat.mod_eq_sub_mod (by omega : i ≥ xs.length)]
theorem mulL_length {k : Nat} {xs : List AV} : ∀ n, (mulL k xs n).length = n * xs.length
  | 0 => by simp [mulL]
  | n + 1 => by simp only [mulL, List.length_append, mulL_length n, Nat.succ_mul]; omega
theorem zeros_sound {w : World} {rd} {xs : List AV} {zs : Array Value} (hr : RelL w rd xs zs.toList) (n : Nat) :
    RelL w rd (mulL 0 xs n) ((Array.range (n * zs.size)).map (zs[· % zs.size]!)).toList := by
  have hl := RelL.length hr
  have hl' : xs.length = zs.size := by simpa using hl
  refine RelL.of_get (by simp [mulL_length, hl']) fun i x v h1 h2 => ?_
  have hi : i < n * zs.size := by
    rcases Nat.lt_or_ge i (n * zs.size) with h | h
    · exact h
    · rw [List.getElem?_eq_none (by simp [mulL_length, hl', h])] at h1; cases h1
  rw [mulL_get n i (by rw [hl']; exact hi), hl'] at h1
  have hz : 0 < zs.size := by
    rcases Nat.eq_zero_or_pos zs.size with h | h
    · rw [h] at hi; simp at hi
    · exact h
  have hm : i % zs.size < zs.size := Nat.mod_lt _ hz
  obtain ⟨u, hu, hru⟩ := RelL.get hr _ x h1
  have e : v = u := by
    have h2' : zs[i % zs.size]! = v := by
      rw [Array.getElem?_toList, Array.getElem?_map, Array.getElem?_eq_getElem (by simpa using hi)] at h2
      simpa using h2
    rw [← h2']
    have hu' : zs[i % zs.size]? = some u := by simpa using hu
    rw [getElem!_pos zs _ hm]
    rw [Array.getElem?_eq_getElem hm] at hu'
    exact Option.some.inj hu'
  rw [e]; exact hru
theorem zeros_one {zs : Array Value} (h : ∀ v ∈ zs.toList, v.oneCell' = true) (n : Nat) : ∀ v ∈ ((Array.range (n * zs.size)).map (zs[· % zs.size]!)).toList, v.oneCell' = true := by
  intro v hv
  simp only [Array.toList_map, List.mem_map, Array.mem_toList_iff, Array.mem_range] at hv
  obtain ⟨i, hi, rfl⟩ := hv
  have hz : 0 < zs.size := by
    rcases Nat.eq_zero_or_pos zs.size with h | h
    · rw [h] at hi; simp at hi
    · exact h
  have hm : i % zs.size < zs.size := Nat.mod_lt _ hz
  rw [getElem!_pos zs _ hm]
  exact h _ (by simp)
end
end Go.Proofs.YtdlgedpmbeafdaaGreatDoor.Aw

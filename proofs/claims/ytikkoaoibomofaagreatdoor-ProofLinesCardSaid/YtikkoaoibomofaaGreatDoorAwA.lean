/-
  The words of an abstract walk over the model: values that bear their contents (AV), a ghost store of what may still be written (St), how a value of the model lies under one (Rel), what the store says of the memory (Inv), and what a step leaves as it was (Adv). Of no program; no condition.
-/
import Derived.WalkKit
import Derived.Maps.AppendAt
import Derived.Below
import Derived.OneCell
import Derived.KernelRfl
set_option linter.unusedVariables false
set_option linter.unusedSimpArgs false
namespace Go.Proofs.YtikkoaoibomofaaGreatDoor.Aw
open Go Go.RowKit

/-- How a slice's array may be used: 'any': read alone (nil, if it is empty, perhaps); 'nn': not nil; 'full': not nil, no room; 'own b': the call's own row, which may be appended to; 'acc b': that, or nil where it is empty. -/
inductive Sh where
  | any | nn | full
  | own (b : Nat)
  | acc (b : Nat)
def Sh.mayNil : Sh → Bool
  | .any | .acc _ => true
  | _ => false
def Sh.less : Sh → Sh
  | .any | .acc _ => .any
  | _ => .nn

inductive AV where
  | int (k : IntKind) (n : Int)
  | bool (b : Bool)
  | str (s : ByteArray)
  | nilp
  | ref (b off : Nat)
  | imm (xs : List AV)
  | nils
  | sl (sh : Sh) (k : Nat) (es : List (List AV))
  | arr (b off n cap : Nat)
  | ag (xs : List AV)
  | tu (xs : List AV)
  | nilf
  | fn (f : Fn) (first cap : List AV)
  | nili
  | ifc (t : TypeId) (x : AV)
  | nilm
  | mp (r : Nat)
  | raw (v : Value)
  | top
instance : Inhabited AV := ⟨.top⟩

/-- What may still be written: a row of cells, a row that may be appended to, a map. -/
inductive Own where
  | obj (e : TypeId) (cells : List AV)
  | tip (e : TypeId) (k n : Nat)
  | mapo (es : List (AV × AV))
  | siter (s : ByteArray) (pos : Nat)
  | miter (cur : Option (AV × AV)) (left : List (AV × AV))

def St := Nat → Option Own
def St.emp : St := fun _ => none
def St.upd (S : St) (b : Nat) (o : Own) : St := fun x => if x = b then some o else S x
def St.del (S : St) (b : Nat) : St := fun x => if x = b then none else S x
theorem St.upd_same (S : St) (b : Nat) (o : Own) : (S.upd b o) b = some o := if_pos rfl
theorem St.upd_ne (S : St) (b : Nat) (o : Own) (x : Nat) (h : x ≠ b) : (S.upd b o) x = S x := if_neg h
theorem St.del_same (S : St) (b : Nat) : (S.del b) b = none := if_pos rfl
theorem St.del_ne (S : St) (b x : Nat) (h : x ≠ b) : (S.del b) x = S x := if_neg h
theorem St.upd_upd (S : St) (b : Nat) (o o' : Own) : (S.upd b o).upd b o' = S.upd b o' := by
  funext x; simp only [St.upd]; split <;> rfl
/-- S' has what S has. -/
def St.le (S S' : St) : Prop := ∀ b o, S b = some o → S' b = some o
theorem St.le_refl (S : St) : St.le S S := fun _ _ h => h
theorem St.le_trans {S S' S'' : St} (h : St.le S S') (h' : St.le S' S'') : St.le S S'' := fun b o e => h' b o (h b o e)
theorem St.le_upd {S S' : St} (h : St.le S S') {b : Nat} (hb : S b = none) (o : Own) : St.le S (S'.upd b o) := fun x p e => by
  have : x ≠ b := fun hx => by rw [hx, hb] at e; cases e
  rw [St.upd_ne _ _ _ _ this]; exact h x p e
theorem St.ne_of' {S : St} {b x : Nat} {o : Own} (hx : S x = none) (hb : S b = some o) : x ≠ b := fun e => by rw [e, hb] at hx; cases hx
theorem St.ne_of {S : St} {b x : Nat} {o : Own} (hb : S b = none) (hx : S x = some o) : x ≠ b := fun e => by rw [e, hb] at hx; cases hx

/-- May the cell be read as it was, for ever? -/
def rdOf (S : St) (b off : Nat) : Prop :=
  match S b with
  | none => True
  | some (.tip _ k n) => off < n * k
  | some _ => False

section
variable (w : World) (rd : Nat → Nat → Prop)
def stab (b off : Nat) (v : Value) : Prop := rd b off ∧ w.cell? ⟨b, off, none⟩ = some v ∧ v.oneCell' = true

def ShOk (sh : Sh) (k b off n cap : Nat) : Prop :=
  match sh with
  | .any => True
  | .nn => True
  | .full => cap = n
  | .own b' => b' = b ∧ off = 0 ∧ ∃ e, w.shape? b = some (e, cap * k)
  | .acc b' => 0 < n ∧ b' = b ∧ off = 0 ∧ ∃ e, w.shape? b = some (e, cap * k)

mutual
def Rel : AV → Value → Prop
  | .int k n, v => v = .int k n
  | .bool b, v => v = .bool b
  | .str s, v => v = .string s
  | .nilp, v => v = .pointer none
  | .ref b off, v => v = .pointer (some ⟨b, off, none⟩)
  | .imm xs, v => ∃ b off, v = .pointer (some ⟨b, off, none⟩) ∧ RelAt b off xs
  | .nils, v => v = .slice none 0 0
  | .sl sh k es, v => (sh.mayNil = true ∧ es = [] ∧ v = .slice none 0 0) ∨ ∃ b off cap, v = .slice (some ⟨b, off, none⟩) es.length cap ∧ es.length ≤ cap ∧ cap ≤ maxLen ∧ ShOk w sh k b off es.length cap ∧ RelRows k b off es
  | .arr b off n cap, v => v = .slice (some ⟨b, off, none⟩) n cap
  | .ag xs, v => ∃ cs : Array Value, v = .agg cs ∧ RelL xs cs.toList ∧ ∀ u ∈ cs.toList, u.oneCell' = true
  | .tu xs, v => ∃ cs : Array Value, v = .tuple cs ∧ RelL xs cs.toList
  | .nilf, v => v = .nilFunc
  | .fn f xs ys, v => ∃ a b : Array Value, v = .func f a b ∧ RelL xs a.toList ∧ RelL ys b.toList
  | .nili, v => v = .nilIface
  | .ifc t x, v => ∃ y, v = .iface t y ∧ Rel x y
  | .nilm, v => v = .map none
  | .mp r, v => v = .map (some r)
  | .raw u, v => v = u
  | .top, _ => True
def RelL : List AV → List Value → Prop
  | [], vs => vs = []
  | x :: xs, vs => ∃ u us, vs = u :: us ∧ Rel x u ∧ RelL xs us
def RelAt (b off : Nat) : List AV → Prop
  | [] => True
  | x :: xs => (∃ v, stab w rd b off v ∧ Rel x v) ∧ RelAt b (off + 1) xs
def RelRows (k b off : Nat) : List (List AV) → Prop
  | [] => True
  | e :: es => (e.length = k ∧ RelAt b off e) ∧ RelRows k b (off + k) es
end
end

def BornOk (ms : Array MapEntry) (clock : Nat) : Prop := (∀ e ∈ ms.toList, e.born < clock) ∧ (ms.toList.map (·.born)).Nodup
/-- A loop over a map that nobody writes any more: what is left of it. -/
def MiterOk (w : World) (rd : Nat → Nat → Prop) (m : Option Nat) (since : Nat) (seen : Array Nat) (last : Nat) (cur : Option (AV × AV)) (left : List (AV × AV)) : Prop :=
  match m with
  | none => left = [] ∧ cur = none
  | some r => (∀ off, rd r off) ∧ ∃ ms : Array MapEntry, w.heap[r]? = some (.map ms since) ∧ last = since ∧ BornOk ms since ∧
      RelL w rd (left.map (·.1)) ((ms.toList.filter fun e => !seen.contains e.born).map (·.key)) ∧ RelL w rd (left.map (·.2)) ((ms.toList.filter fun e => !seen.contains e.born).map (·.val)) ∧
      ∀ kv, cur = some kv → ∃ e ∈ ms.toList, seen.back? = some e.born ∧ Rel w rd kv.1 e.key ∧ Rel w rd kv.2 e.val
/-- What the ghost store says of the memory. -/
def OwnOk (w : World) (rd : Nat → Nat → Prop) (b : Nat) : Own → Prop
  | .obj e cells => ∃ cs : Array Value, w.heap[b]? = some (.cells cs e (0, 0)) ∧ RelL w rd cells cs.toList ∧ ∀ v ∈ cs.toList, v.oneCell' = true
  | .tip e k n => ∃ (cur : Array Value) (cap : Nat), w.heap[b]? = some (.cells cur e (0, 0)) ∧ n ≤ cap ∧ cap ≤ maxLen ∧ cur.size = cap * k ∧ ∀ v ∈ cur.toList, v.oneCell' = true
  | .mapo es => ∃ (ms : Array MapEntry) (clock : Nat), w.heap[b]? = some (.map ms clock) ∧ RelL w rd (es.map (·.1)) (ms.toList.map (·.key)) ∧ RelL w rd (es.map (·.2)) (ms.toList.map (·.val)) ∧ BornOk ms clock
  | .siter s pos => w.heap[b]? = some (.stringIter s pos)
  | .miter cur left => ∃ m since seen last, w.heap[b]? = some (.mapIter m since seen last) ∧ MiterOk w rd m since seen last cur left
def Inv (w : World) (S : St) : Prop := ∀ b o, S b = some o → OwnOk w (rdOf S) b o

/-- What a step leaves. -/
structure Adv (w : World) (S : St) (w' : World) (S' : St) : Prop where
  os : w'.os = w.os
  tape : w'.tape = w.tape
  output : w'.output = w.output
  size : w.heap.size ≤ w'.heap.size
  old : ∀ b, b < w.heap.size → S b = none → S' b = none ∧ w'.heap[b]? = w.heap[b]?
  stay : ∀ b off, b < w.heap.size → rdOf S b off → rdOf S' b off ∧ w'.cell? ⟨b, off, none⟩ = w.cell? ⟨b, off, none⟩
  shape : ∀ b e n, w.shape? b = some (e, n) → w'.shape? b = some (e, n)

theorem Adv.refl (w : World) (S : St) : Adv w S w S := ⟨rfl, rfl, rfl, Nat.le_refl _, fun _ _ h => ⟨h, rfl⟩, fun _ _ _ h => ⟨h, rfl⟩, fun _ _ _ h => h⟩
theorem Adv.trans {a b c : World} {S T U : St} (h : Adv a S b T) (k : Adv b T c U) : Adv a S c U :=
  ⟨k.os.trans h.os, k.tape.trans h.tape, k.output.trans h.output, Nat.le_trans h.size k.size,
   fun x hx hn => by
     obtain ⟨h1, h2⟩ := h.old x hx hn
     obtain ⟨k1, k2⟩ := k.old x (Nat.lt_of_lt_of_le hx h.size) h1
     exact ⟨k1, k2.trans h2⟩,
   fun x off hx hr => by
     obtain ⟨h1, h2⟩ := h.stay x off hx hr
     obtain ⟨k1, k2⟩ := k.stay x off (Nat.lt_of_lt_of_le hx h.size) h1
     exact ⟨k1, k2.trans h2⟩,
   fun x e n hx => k.shape x e n (h.shape x e n hx)⟩
theorem Adv.drew {a b : World} {S T : St} (h : Adv a S b T) : Adv a S b.drew T := ⟨h.os, h.tape, h.output, h.size, h.old, h.stay, h.shape⟩
theorem Adv.below {w w' : World} {S' : St} (h : Adv w St.emp w' S') : Below w.heap.size w w' :=
  ⟨h.os, h.tape, h.output, h.size, fun k hk => (h.old k hk rfl).2⟩

section mono
variable {w w' : World} {S S' : St}
theorem stab_mono (h : Adv w S w' S') {b off : Nat} {v : Value} (hs : stab w (rdOf S) b off v) : stab w' (rdOf S') b off v := by
  obtain ⟨h1, h2, h3⟩ := hs
  have hb : b < w.heap.size := World.block_lt_of_cell? w ⟨b, off, none⟩ h2
  obtain ⟨k1, k2⟩ := h.stay b off hb h1
  exact ⟨k1, k2.trans h2, h3⟩
theorem ShOk_mono (h : Adv w S w' S') {sh : Sh} {k b off n cap : Nat} (hs : ShOk w sh k b off n cap) : ShOk w' sh k b off n cap := by
  cases sh with
  | own b' => obtain ⟨h1, h2, e, h3⟩ := hs; exact ⟨h1, h2, e, h.shape _ _ _ h3⟩
  | acc b' => obtain ⟨h0, h1, h2, e, h3⟩ := hs; exact ⟨h0, h1, h2, e, h.shape _ _ _ h3⟩
  | _ => exact hs
mutual
theorem Rel.mono (h : Adv w S w' S') : ∀ (x : AV) (v : Value), Rel w (rdOf S) x v → Rel w' (rdOf S') x v
  | .int .., v, hr => by simpa only [Rel] using hr
  | .bool .., v, hr => by simpa only [Rel] using hr
  | .str .., v, hr => by simpa only [Rel] using hr
  | .nilp, v, hr => by simpa only [Rel] using hr
  | .ref .., v, hr => by simpa only [Rel] using hr
  | .imm xs, v, hr => by
    simp only [Rel] at hr ⊢
    obtain ⟨b, off, h1, h2⟩ := hr
    exact ⟨b, off, h1, RelAt.mono h b off xs h2⟩
  | .nils, v, hr => by simpa only [Rel] using hr
  | .sl sh k es, v, hr => by
    simp only [Rel] at hr ⊢
    rcases hr with hr | ⟨b, off, cap, h1, h2, h3, h4, h5⟩
    · exact .inl hr
    · exact .inr ⟨b, off, cap, h1, h2, h3, ShOk_mono h h4, RelRows.mono h k b off es h5⟩
  | .arr .., v, hr => by simpa only [Rel] using hr
  | .ag xs, v, hr => by
    simp only [Rel] at hr ⊢
    obtain ⟨cs, h1, h2, h3⟩ := hr
    exact ⟨cs, h1, RelL.mono h xs _ h2, h3⟩
  | .tu xs, v, hr => by
    simp only [Rel] at hr ⊢
    obtain ⟨cs, h1, h2⟩ := hr
    exact ⟨cs, h1, RelL.mono h xs _ h2⟩
  | .nilf, v, hr => by simpa only [Rel] using hr
  | .fn f xs ys, v, hr => by
    simp only [Rel] at hr ⊢
    obtain ⟨a, b, h1, h2, h3⟩ := hr
    exact ⟨a, b, h1, RelL.mono h xs _ h2, RelL.mono h ys _ h3⟩
  | .nili, v, hr => by simpa only [Rel] using hr
  | .ifc t x, v, hr => by
    simp only [Rel] at hr ⊢
    obtain ⟨y, h1, h2⟩ := hr
    exact ⟨y, h1, Rel.mono h x y h2⟩
  | .nilm, v, hr => by simpa only [Rel] using hr
  | .mp .., v, hr => by simpa only [Rel] using hr
  | .raw .., v, hr => by simpa only [Rel] using hr
  | .top, v, hr => by simp only [Rel]
theorem RelL.mono (h : Adv w S w' S') : ∀ (xs : List AV) (vs : List Value), RelL w (rdOf S) xs vs → RelL w' (rdOf S') xs vs
  | [], vs, hr => by simpa only [RelL] using hr
  | x :: xs, vs, hr => by
    simp only [RelL] at hr ⊢
    obtain ⟨u, us, h1, h2, h3⟩ := hr
    exact ⟨u, us, h1, Rel.mono h x u h2, RelL.mono h xs us h3⟩
theorem RelAt.mono (h : Adv w S w' S') (b off : Nat) : ∀ (xs : List AV), RelAt w (rdOf S) b off xs → RelAt w' (rdOf S') b off xs
  | [], hr => by simp only [RelAt]
  | x :: xs, hr => by
    simp only [RelAt] at hr ⊢
    obtain ⟨⟨v, h1, h2⟩, h3⟩ := hr
    exact ⟨⟨v, stab_mono h h1, Rel.mono h x v h2⟩, RelAt.mono h b (off + 1) xs h3⟩
theorem RelRows.mono (h : Adv w S w' S') (k b off : Nat) : ∀ (es : List (List AV)), RelRows w (rdOf S) k b off es → RelRows w' (rdOf S') k b off es
  | [], hr => by simp only [RelRows]
  | e :: es, hr => by
    simp only [RelRows] at hr ⊢
    obtain ⟨⟨h1, h2⟩, h3⟩ := hr
    exact ⟨⟨h1, RelAt.mono h b off e h2⟩, RelRows.mono h k b (off + k) es h3⟩
end
end mono

/-! ### Small facts -/
theorem RelL.length {w : World} {rd} : ∀ {xs : List AV} {vs : List Value}, RelL w rd xs vs → xs.length = vs.length
  | [], vs, h => by simp only [RelL] at h; subst h; rfl
  | x :: xs, vs, h => by
    simp only [RelL] at h
    obtain ⟨u, us, rfl, _, h3⟩ := h
    simp [RelL.length h3]
theorem RelL.get {w : World} {rd} : ∀ {xs : List AV} {vs : List Value}, RelL w rd xs vs → ∀ (i : Nat) (x : AV), xs[i]? = some x → ∃ v, vs[i]? = some v ∧ Rel w rd x v
  | [], vs, h, i, x, hi => by simp at hi
  | y :: ys, vs, h, i, x, hi => by
    simp only [RelL] at h
    obtain ⟨u, us, rfl, h2, h3⟩ := h
    cases i with
    | zero => simp at hi; subst hi; exact ⟨u, rfl, h2⟩
    | succ i => simp at hi; simpa using RelL.get h3 i x hi
theorem RelL.drop {w : World} {rd} : ∀ {xs : List AV} {vs : List Value}, RelL w rd xs vs → ∀ n, RelL w rd (xs.drop n) (vs.drop n)
  | xs, vs, h, 0 => by simpa using h
  | [], vs, h, n + 1 => by simp only [RelL] at h; subst h; simp [RelL]
  | x :: xs, vs, h, n + 1 => by
    simp only [RelL] at h
    obtain ⟨u, us, rfl, _, h3⟩ := h
    simpa using RelL.drop h3 n
theorem RelL.take {w : World} {rd} : ∀ {xs : List AV} {vs : List Value}, RelL w rd xs vs → ∀ n, RelL w rd (xs.take n) (vs.take n)
  | xs, vs, h, 0 => by simp [RelL]
  | [], vs, h, n + 1 => by simp only [RelL] at h; subst h; simp [RelL]
  | x :: xs, vs, h, n + 1 => by
    simp only [RelL] at h
    obtain ⟨u, us, rfl, h2, h3⟩ := h
    simp only [List.take_succ_cons, RelL]
    exact ⟨u, us.take n, rfl, h2, RelL.take h3 n⟩
theorem RelL.append {w : World} {rd} : ∀ {xs ys : List AV} {vs us : List Value}, RelL w rd xs vs → RelL w rd ys us → RelL w rd (xs ++ ys) (vs ++ us)
  | [], ys, vs, us, h, k => by simp only [RelL] at h; subst h; simpa using k
  | x :: xs, ys, vs, us, h, k => by
    simp only [RelL] at h
    obtain ⟨u, ws, rfl, h2, h3⟩ := h
    simp only [List.cons_append, RelL]
    exact ⟨u, ws ++ us, rfl, h2, RelL.append h3 k⟩
theorem RelL.set {w : World} {rd} : ∀ {xs : List AV} {vs : List Value}, RelL w rd xs vs → ∀ (i : Nat) (y : AV) (u : Value), Rel w rd y u → RelL w rd (xs.set i y) (vs.set i u)
  | [], vs, h, i, y, u, hy => by simp only [RelL] at h; subst h; simp [RelL]
  | x :: xs, vs, h, 0, y, u, hy => by
    simp only [RelL] at h
    obtain ⟨u', us, rfl, h2, h3⟩ := h
    simp only [List.set_cons_zero, RelL]
    exact ⟨u, us, rfl, hy, h3⟩
  | x :: xs, vs, h, i + 1, y, u, hy => by
    simp only [RelL] at h
    obtain ⟨u', us, rfl, h2, h3⟩ := h
    simp only [List.set_cons_succ, RelL]
    exact ⟨u', us.set i u, rfl, h2, RelL.set h3 i y u hy⟩
theorem RelAt.drop {w : World} {rd} {b : Nat} : ∀ {xs : List AV} {off : Nat}, RelAt w rd b off xs → ∀ n, RelAt w rd b (off + n) (xs.drop n)
  | xs, off, h, 0 => by simpa using h
  | [], off, h, n + 1 => by simp [RelAt]
  | x :: xs, off, h, n + 1 => by
    simp only [RelAt] at h
    have := RelAt.drop h.2 n
    rw [show off + (n + 1) = off + 1 + n from by omega]
    simpa using this
theorem RelAt.get {w : World} {rd} {b : Nat} : ∀ {xs : List AV} {off : Nat}, RelAt w rd b off xs → ∀ (i : Nat) (x : AV), xs[i]? = some x → ∃ v, stab w rd b (off + i) v ∧ Rel w rd x v
  | [], off, h, i, x, hi => by simp at hi
  | y :: ys, off, h, i, x, hi => by
    simp only [RelAt] at h
    cases i with
    | zero => simp at hi; subst hi; simpa using h.1
    | succ i =>
      simp at hi
      have := RelAt.get h.2 i x hi
      rwa [show off + 1 + i = off + (i + 1) from by omega] at this
theorem RelRows.get {w : World} {rd} {k b : Nat} : ∀ {es : List (List AV)} {off : Nat}, RelRows w rd k b off es → ∀ (i : Nat) (e : List AV), es[i]? = some e → e.length = k ∧ RelAt w rd b (off + i * k) e
  | [], off, h, i, e, hi => by simp at hi
  | y :: ys, off, h, i, e, hi => by
    simp only [RelRows] at h
    cases i with
    | zero => simp at hi; subst hi; simpa using h.1
    | succ i =>
      simp at hi
      have := RelRows.get h.2 i e hi
      rwa [show off + k + i * k = off + (i + 1) * k from by rw [Nat.succ_mul]; omega] at this
theorem RelRows.drop {w : World} {rd} {k b : Nat} : ∀ {es : List (List AV)} {off : Nat}, RelRows w rd k b off es → ∀ n, RelRows w rd k b (off + n * k) (es.drop n)
  | es, off, h, 0 => by simpa using h
  | [], off, h, n + 1 => by simp [RelRows]
  | e :: es, off, h, n + 1 => by
    simp only [RelRows] at h
    have := RelRows.drop h.2 n
    rw [show off + (n + 1) * k = off + k + n * k from by rw [Nat.succ_mul]; omega]
    simpa using this
theorem RelRows.take {w : World} {rd} {k b : Nat} : ∀ {es : List (List AV)} {off : Nat}, RelRows w rd k b off es → ∀ n, RelRows w rd k b off (es.take n)
  | es, off, h, 0 => by simp [RelRows]
  | [], off, h, n + 1 => by simp [RelRows]
  | e :: es, off, h, n + 1 => by
    simp only [RelRows] at h
    simp only [List.take_succ_cons, RelRows]
    exact ⟨h.1, RelRows.take h.2 n⟩
theorem RelRows.lens {w : World} {rd} {k b : Nat} : ∀ {es : List (List AV)} {off : Nat}, RelRows w rd k b off es → ∀ e ∈ es, e.length = k
  | [], off, h, e, he => by simp at he
  | y :: ys, off, h, e, he => by
    simp only [RelRows] at h
    rcases List.mem_cons.1 he with rfl | he
    · exact h.1.1
    · exact RelRows.lens h.2 e he
theorem rdOf_all {S : St} {r : Nat} (h : ∀ off, rdOf S r off) : S r = none := by
  cases e : S r with
  | none => rfl
  | some o =>
    cases o with
    | tip e' k n =>
      have := h (n * k)
      simp only [rdOf, e] at this
      omega
    | _ => have := h 0; simp only [rdOf, e] at this
theorem MiterOk.mono {w w' : World} {S S' : St} (h : Adv w S w' S') {m : Option Nat} {since : Nat} {seen : Array Nat} {last : Nat} {cur : Option (AV × AV)} {left : List (AV × AV)} (ho : MiterOk w (rdOf S) m since seen last cur left) : MiterOk w' (rdOf S') m since seen last cur left := by
  cases m with
  | none => exact ho
  | some r =>
    obtain ⟨h1, ms, h2, h3, h4, h5, h6, h7⟩ := ho
    have hn := rdOf_all h1
    obtain ⟨k1, k2⟩ := h.old r (lt_of_block h2) hn
    exact ⟨fun off => by simp only [rdOf, k1], ms, k2.trans h2, h3, h4, RelL.mono h _ _ h5, RelL.mono h _ _ h6, fun kv hkv => by
      obtain ⟨e, e1, e2, e3, e4⟩ := h7 kv hkv
      exact ⟨e, e1, e2, Rel.mono h _ _ e3, Rel.mono h _ _ e4⟩⟩
theorem OwnOk.mono {w w' : World} {S S' : St} (h : Adv w S w' S') {b : Nat} {o : Own} (hb : w'.heap[b]? = w.heap[b]?) (ho : OwnOk w (rdOf S) b o) : OwnOk w' (rdOf S') b o := by
  cases o with
  | obj e cells => obtain ⟨cs, h1, h2, h3⟩ := ho; exact ⟨cs, hb.trans h1, RelL.mono h _ _ h2, h3⟩
  | tip e k n => obtain ⟨cur, cap, h1, h2⟩ := ho; exact ⟨cur, cap, hb.trans h1, h2⟩
  | mapo es => obtain ⟨ms, c, h1, h2, h3, h4⟩ := ho; exact ⟨ms, c, hb.trans h1, RelL.mono h _ _ h2, RelL.mono h _ _ h3, h4⟩
  | siter s pos => exact hb.trans ho
  | miter cur left => obtain ⟨m, since, seen, last, h1, h2⟩ := ho; exact ⟨m, since, seen, last, hb.trans h1, MiterOk.mono h h2⟩
theorem OwnOk.lt {w : World} {rd} {b : Nat} {o : Own} (ho : OwnOk w rd b o) : b < w.heap.size := by
  have : ∃ x, w.heap[b]? = some x := by
    cases o with
    | obj e cells => obtain ⟨cs, h1, _⟩ := ho; exact ⟨_, h1⟩
    | tip e k n => obtain ⟨cur, cap, h1, _⟩ := ho; exact ⟨_, h1⟩
    | mapo es => obtain ⟨ms, c, h1, _⟩ := ho; exact ⟨_, h1⟩
    | siter s pos => exact ⟨_, ho⟩
    | miter cur left => obtain ⟨m, since, seen, last, h1, _⟩ := ho; exact ⟨_, h1⟩
  obtain ⟨x, hx⟩ := this
  exact lt_of_block hx
theorem Inv.emp (w : World) : Inv w St.emp := fun b o h => by cases h
theorem Inv.lt {w : World} {S : St} (hi : Inv w S) {b : Nat} {o : Own} (h : S b = some o) : b < w.heap.size := (hi b o h).lt
theorem Inv.fresh {w : World} {S : St} (hi : Inv w S) : S w.heap.size = none := by
  cases h : S w.heap.size with
  | none => rfl
  | some o => exact absurd (hi.lt h) (Nat.lt_irrefl _)
theorem Inv.drew {w : World} {S : St} (hi : Inv w S) : Inv w.drew S := fun b o h =>
  OwnOk.mono (w := w) (S := S) (Adv.refl w S).drew rfl (hi b o h)

/-- What is owned is let go: it can be read from then on. -/
theorem Adv.del {w : World} {S : St} (b : Nat) : Adv w S w (S.del b) := by
  refine ⟨rfl, rfl, rfl, Nat.le_refl _, fun x hx hn => ⟨?_, rfl⟩, fun x off hx hr => ⟨?_, rfl⟩, fun _ _ _ h => h⟩
  · by_cases e : x = b
    · subst e; exact St.del_same _ _
    · rw [St.del_ne _ _ _ e]; exact hn
  · by_cases e : x = b
    · subst e; simp only [rdOf, St.del_same]
    · simp only [rdOf, St.del_ne _ _ _ e]; exact hr
theorem Inv.del {w : World} {S : St} (hi : Inv w S) (b : Nat) : Inv w (S.del b) := by
  intro x o h
  by_cases e : x = b
  · subst e; rw [St.del_same] at h; cases h
  · rw [St.del_ne _ _ _ e] at h
    exact OwnOk.mono (Adv.del b) rfl (hi x o h)
/-- All that S' has beyond S is let go at once. -/
theorem Adv.shrink {w : World} {S S' : St} (h : St.le S S') : Adv w S' w S := by
  refine ⟨rfl, rfl, rfl, Nat.le_refl _, fun x hx hn => ⟨?_, rfl⟩, fun x off hx hr => ⟨?_, rfl⟩, fun _ _ _ h => h⟩
  · cases e : S x with
    | none => rfl
    | some o => rw [h x o e] at hn; cases hn
  · cases e : S x with
    | none => simp only [rdOf, e]
    | some o => simp only [rdOf, e]; simp only [rdOf, h x o e] at hr; exact hr
theorem Inv.shrink {w : World} {S S' : St} (hi : Inv w S') (h : St.le S S') : Inv w S := fun x o e =>
  OwnOk.mono (Adv.shrink h) rfl (hi x o (h x o e))

end Go.Proofs.YtikkoaoibomofaaGreatDoor.Aw

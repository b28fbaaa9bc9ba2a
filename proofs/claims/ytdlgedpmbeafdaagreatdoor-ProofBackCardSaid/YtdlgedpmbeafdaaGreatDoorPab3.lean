/-
  The abstract walk is sound in regions that draw their order: one walk along a plan serves every order that may be drawn. No condition.
  The abstract walk is sound: a region in the text's order, code, a function; and the rules by which contracts are used. No condition.
  The table of the seat's types for the abstract walk, and that it is the program's. Written by a program of mine (gentypes.py) out of the translation's own rows; no condition.
  Small laws for walks: int arithmetic, stores, accumulators; contracts of the library's functions brought into the abstract walk's words. No condition.
-/
import Derived.Test.YtdlgedpmbeafdaaGreatDoorPab2
import Derived.Orders
import Derived.RangeFuncIn
import Derived.Test.YtdlgedpmbeafdaaGreatDoorPab1
import Derived.Test.YtdlgedpmbeafdaaGreatDoorProg
set_option linter.unusedVariables false
set_option linter.unusedSimpArgs false
namespace Go.Proofs.YtdlgedpmbeafdaaGreatDoor.Aw
open Go Go.RowKit

def evR (C : Cx) (ρ : Nat → AV) : Operand → AV
  | .tmp t => ρ t
  | x => ev C [] x
theorem ev_evR (C : Cx) (env : Env) : ev C env = evR C (fun t => look t env) := by
  funext x; cases x <;> rfl
def rput (d : Option Tmp) (x : AV) (ρ : Nat → AV) : Nat → AV :=
  match d with
  | some d => fun t => if d = t then x else ρ t
  | none => ρ
theorem look_put (d : Option Tmp) (x : AV) (env : Env) : (fun t => look t (put d x env)) = rput d x (fun t => look t env) := by
  cases d with
  | none => rfl
  | some d => funext t; simp only [put, rput, look_cons]
theorem rput_comm {d d' : Option Tmp} (h : ∀ t, d = some t → d' ≠ some t) (x y : AV) (ρ : Nat → AV) : rput d x (rput d' y ρ) = rput d' y (rput d x ρ) := by
  cases d with
  | none => rfl
  | some d =>
    cases d' with
    | none => rfl
    | some d' =>
      have hne : d' ≠ d := fun e => h d rfl (by rw [e])
      funext t
      simp only [rput]
      by_cases e : d = t
      · subst e; simp [hne]
      · simp [e]
theorem evR_put {C : Cx} {d : Option Tmp} {x : AV} {ρ : Nat → AV} {o : Operand} (h : ∀ t, d = some t → o ≠ .tmp t) : evR C (rput d x ρ) o = evR C ρ o := by
  cases d with
  | none => rfl
  | some d =>
    cases o with
    | tmp t =>
      have : d ≠ t := fun e => h d rfl (by rw [e])
      simp [evR, rput, this]
    | _ => rfl

section
variable {P : Program} {C : Cx}
theorem putK_eq (d : Option Tmp) (x : AV) (env : Env) (K : Env → Prop) : putK d x env K = K (put d x env) := by cases d <;> rfl
theorem map_congr' {α β : Type} {f g : α → β} {l : List α} (h : ∀ x ∈ l, f x = g x) : l.map f = l.map g := List.map_congr_left h
theorem aOpE_congr {o : Oper} {e e' : Operand → AV} {S : St} {K Qp : AV → St → Prop} (h : ∀ x ∈ o.op.operands, e x = e' x) : aOpE P C o e S K Qp = aOpE P C o e' S K Qp := by
  unfold aOpE
  generalize o.op = op at h
  cases op <;> simp only [Op.operands, List.mem_toArray, Array.mem_append, Array.mem_def, List.mem_cons, List.not_mem_nil, or_false, forall_eq_or_imp, forall_eq, List.mem_map, Option.mem_toList] at h <;> first | (dsimp only; rw [h]; done) | (simp only [h]) | skip
  case next it str => cases str <;> (dsimp only; try rw [h])
  case makeMap t r => cases r <;> rfl
  case build t ps =>
    rw [map_congr' (f := fun p : Nat × Operand => (p.1, e p.2)) (g := fun p => (p.1, e' p.2)) (fun p hp => by rw [h p.2 ⟨p, hp, rfl⟩])]
  case buildSlice t n ps =>
    rw [map_congr' (f := fun p : Nat × Operand => (p.1, e p.2)) (g := fun p => (p.1, e' p.2)) (fun p hp => by rw [h p.2 ⟨p, hp, rfl⟩])]
  case makeFunc f a b =>
    simp only [Array.toList_append, List.mem_append] at h
    rw [map_congr' (fun x hx => h x (.inl hx)), map_congr' (fun x hx => h x (.inr hx))]
  case slice t x lo hi mx =>
    simp only [Array.toList_append, List.mem_append, List.mem_singleton] at h
    have h1 : e x = e' x := h x (by simp)
    have h2 : lo.map e = lo.map e' := by cases lo with | none => rfl | some y => simp [h y]
    have h3 : hi.map e = hi.map e' := by cases hi with | none => rfl | some y => simp [h y]
    have h4 : mx.map e = mx.map e' := by cases mx with | none => rfl | some y => simp [h y]
    rw [h1, h2, h3, h4]
  case call c =>
    simp only [Call.operands, Array.toList_append, List.mem_append] at h
    rw [map_congr' (fun x hx => h x (.inr hx))]
    split
    · rfl
    · rename_i f hf
      rw [h f (.inl (by rw [hf]; simp))]
    · rfl
theorem aOpQ_congr {o : Oper} {e e' : Operand → AV} {S : St} {K : AV → Prop} (h : ∀ x ∈ o.op.operands, e x = e' x) : aOpQ P C o e S K = aOpQ P C o e' S K := by
  unfold aOpQ
  split
  · rename_i c hc
    rw [hc] at h
    simp only [Op.operands, Call.operands, Array.toList_append, List.mem_append, Array.mem_append, Array.mem_def] at h
    split
    · rename_i t x _ _ hx
      rw [h x (.inr (by rw [hx]; simp))]
    · rfl
  · rename_i op t x y yt ho
    rw [ho] at h
    rw [h x (by simp [Op.operands]), h y (by simp [Op.operands])]
  · rename_i s d x ho
    rw [ho] at h
    rw [h x (by simp [Op.operands])]
  · exact aOpE_congr h
def RQ (P : Program) (C : Cx) (c : Nat) (o : Oper) (e : Operand → AV) (S : St) (x : AV) : Prop :=
  match c with
  | 4 => aOpE P C o e S (fun y S' => y = x ∧ S' = S) (fun _ _ => False)
  | _ => aOpQ P C o e S (· = x)
theorem RQ_congr {c : Nat} {o : Oper} {e e' : Operand → AV} {S : St} {x : AV} (h : ∀ y ∈ o.op.operands, e y = e' y) : RQ P C c o e S x = RQ P C c o e' S x := by
  unfold RQ
  split
  · exact aOpE_congr h
  · exact aOpQ_congr h
/-- A way to go on that comes to one value. -/
structure Det (F : (AV → Prop) → Prop) : Prop where
  one : ∀ K, F K → ∃ x, F (· = x) ∧ K x
  mono : ∀ K K' : AV → Prop, (∀ x, K x → K' x) → F K → F K'
theorem Det.id (x : AV) : Det fun K => K x := ⟨fun K h => ⟨x, rfl, h⟩, fun K K' h => h x⟩
theorem Det.no : Det fun _ => False := ⟨fun K h => h.elim, fun K K' _ h => h⟩
theorem Det.and {p : Prop} {F : (AV → Prop) → Prop} (h : Det F) : Det fun K => p ∧ F K := ⟨fun K hk => by
  obtain ⟨x, h1, h2⟩ := h.one K hk.2
  exact ⟨x, ⟨hk.1, h1⟩, h2⟩, fun K K' hh hk => ⟨hk.1, h.mono K K' hh hk.2⟩⟩
theorem Det.ex {α : Type} {F : α → (AV → Prop) → Prop} (h : ∀ a, Det (F a)) : Det fun K => ∃ a, F a K := ⟨fun K ⟨a, hk⟩ => by
  obtain ⟨x, h1, h2⟩ := (h a).one K hk
  exact ⟨x, ⟨a, h1⟩, h2⟩, fun K K' hh ⟨a, hk⟩ => ⟨a, (h a).mono K K' hh hk⟩⟩
theorem Det.when {b : Bool} {F : (AV → Prop) → Prop} (h : Det F) : Det fun K => when b (F K) := by cases b; exact Det.no; exact h
theorem Det.force (x : AV) {F : AV → (AV → Prop) → Prop} (h : ∀ x, Det (F x)) : Det fun K => force x fun y => F y K := by simp only [force_eq]; exact h x
theorem aPart_det (t : TypeId) (xs : List AV) (off : Nat) : Det (aPart C t xs off) := by
  unfold aPart
  cases (C.T t).agg with
  | true => simp only [forceL_eq]; exact Det.when (Det.id _)
  | false =>
    cases xs.drop off with
    | nil => exact Det.no
    | cons x r => simp only [force_eq]; exact Det.id _
theorem aLoad_det (t : TypeId) (p : AV) (S : St) : Det (aLoad C t p S) := by
  unfold aLoad
  cases p <;> first | exact Det.no | skip
  · exact Det.when (Det.ex fun e => Det.ex fun cells => Det.and (aPart_det t cells _))
  · exact Det.when (aPart_det t _ 0)
theorem aIntOp_det (op : BinOp) (k : IntKind) (a b : Int) : Det (aIntOp op k a b) := by
  unfold aIntOp
  cases op <;> first | exact Det.no | exact Det.id _ | exact Det.and (Det.id _)
theorem aStrOp_det (op : BinOp) (a b : ByteArray) : Det (aStrOp op a b) := by
  unfold aStrOp
  cases op <;> first | exact Det.no | exact Det.id _ | exact Det.and (Det.id _)
theorem aBin_det (op : BinOp) (t : TypeId) (x y : Operand) (a b : AV) : Det (aBin C op t x y a b) := by
  have tail : Det fun K => (match op with
      | .eql => (match aEq C t a b with | some r => K (.bool r) | none => False)
      | .neq => (match aEq C t a b with | some r => K (.bool (!r)) | none => False)
      | _ => False) := by
    cases op <;> first | exact Det.no | (cases aEq C t a b <;> first | exact Det.no | exact Det.id _)
  unfold aBin
  cases a <;> first | exact tail | (cases b <;> first | exact tail | skip)
  · rename_i k m k' n
    cases op <;> first | exact Det.when (aIntOp_det _ k m n) | exact Det.and (Det.id _)
  · exact aStrOp_det op _ _
  · cases (C.T t).kind <;> first | exact Det.no | (cases op <;> first | exact Det.no | exact Det.when (Det.id _))
theorem aUn_det (op : UnOp) (x : AV) : Det (aUn op x) := by
  unfold aUn
  cases op <;> first | exact Det.no | (cases x <;> first | exact Det.no | exact Det.id _)
theorem aConv_det (s d : TypeId) (x : AV) (S : St) : Det (aConv C s d x S) := by
  unfold aConv
  cases (C.T s).kind <;> first | exact Det.no | (cases (C.T d).kind <;> first | exact Det.no | (cases x <;> first | exact Det.no | exact Det.id _ | exact Det.when (Det.id _) | exact Det.when (Det.and (Det.id _)) | exact Det.when (Det.ex fun _ => Det.and (Det.id _))))
theorem aFieldAddr_det (t : TypeId) (p : AV) (f : Nat) : Det (aFieldAddr C t p f) := by
  unfold aFieldAddr
  cases fieldOf C t f with
  | none => exact Det.no
  | some q => exact Det.when (by cases p <;> first | exact Det.no | exact Det.id _)
theorem aField_det (t : TypeId) (p : AV) (f : Nat) : Det (aField C t p f) := by
  unfold aField
  cases fieldOf C t f with
  | none => exact Det.no
  | some q => cases p <;> first | exact Det.no | exact Det.when (aPart_det _ _ _)
theorem aIndexAddr_det (t : TypeId) (x i : AV) : Det (aIndexAddr C t x i) := by
  unfold aIndexAddr
  cases (C.T t).kind <;> first | exact Det.no | (cases x <;> first | exact Det.no | (cases i <;> first | exact Det.no | exact Det.when (Det.ex fun _ => Det.and (Det.id _)) | exact Det.when (Det.and (Det.id _))))
theorem aIndex_det (t : TypeId) (x i : AV) : Det (aIndex C t x i) := by
  unfold aIndex
  cases (C.T t).kind <;> first | exact Det.no | (cases x <;> first | exact Det.no | (cases i <;> first | exact Det.no | exact Det.and (Det.id _)))
theorem aSlice_det (t : TypeId) (x : AV) (lo hi mx : Option AV) : Det (aSlice C t x lo hi mx) := by
  have opt : ∀ (a b : Option Int) (p : Int → Int → Prop) (v : Int → Int → AV), Det fun K => (match a, b with | some l, some h => p l h ∧ K (v l h) | _, _ => False) := fun a b p v => by
    cases a <;> cases b <;> first | exact Det.no | exact Det.and (Det.id _)
  have zer : ∀ (lo hi : Option AV) (m y : AV), Det fun K => (match lo, hi, m with | none, some (.int _ 0), .int _ 0 => K y | _, _, _ => False) := fun lo hi m y => by
    constructor
    · intro K h
      split at h
      · exact ⟨y, rfl, h⟩
      · exact h.elim
    · intro K K' hh h
      split at h
      · exact hh y h
      · exact h.elim
  unfold aSlice
  cases (C.T t).kind <;> first | exact Det.no | (cases x <;> first | exact Det.no | (cases mx <;> first | exact Det.no | exact opt _ _ _ _ | exact Det.when (opt _ _ _ _) | exact Det.when (zer _ _ _ _)))
theorem aLenQ_det (t : TypeId) (x : AV) : Det (aLenQ C t x) := by
  unfold aLenQ
  cases (C.T t).kind <;> first | exact Det.no | (cases x <;> first | exact Det.no | exact Det.id _)
theorem aOpQ_det {o : Oper} (ho : opClass o ≤ 1) (e : Operand → AV) (S : St) : Det (aOpQ P C o e S) := by
  unfold aOpQ aOpE
  unfold opClass at ho
  generalize o.op = op at ho
  cases op <;> first | (exfalso; simp at ho; done) | skip
  case build t ps =>
    dsimp only
    cases (C.T t).kind <;> first | exact Det.no | skip
    simp only [forceL_eq]
    cases aFill _ _ _ with
    | none => exact Det.no
    | some cells => exact Det.when (Det.id _)
  all_goals first | exact aLoad_det _ _ S | exact aBin_det _ _ _ _ _ _ | exact aUn_det _ _ | exact aConv_det _ _ _ S | exact aFieldAddr_det _ _ _ | exact aField_det _ _ _ | exact aIndexAddr_det _ _ _ | exact aIndex_det _ _ _ | exact aSlice_det _ _ _ _ _ | (simp only [force_eq, forceL_eq]; exact Det.id _) | skip
  case pick c a b =>
    simp only [force_eq]
    cases e c <;> first | exact Det.no | skip
    rename_i t
    cases t <;> exact Det.id _
  case nilCheck x =>
    dsimp only
    cases e x <;> first | exact Det.no | exact Det.id _ | skip
    rename_i f a b
    cases f <;> first | exact Det.no | exact Det.id _
  case makeInterface t x =>
    simp only [force_eq]
    cases (C.T t).kind <;> first | exact Det.no | exact Det.id _
  case extract x i =>
    simp only [force_eq]
    cases e x <;> first | exact Det.no | skip
    rename_i xs
    dsimp only
    cases xs.drop i <;> first | exact Det.no | exact Det.id _
  case call c =>
    dsimp only
    cases c.callee <;> first | exact Det.no | skip
    rename_i b
    cases b <;> first | exact Det.no | skip
    cases c.argTypes.toList <;> first | exact Det.no | skip
    rename_i t ts
    cases ts <;> first | exact Det.no | skip
    cases c.args.toList <;> first | exact Det.no | skip
    rename_i x xs
    cases xs <;> first | exact Det.no | exact aLenQ_det _ _
theorem aOpQ_light {o : Oper} (ho : opClass o = 0) (e : Operand → AV) (S S' : St) (K : AV → Prop) : aOpQ P C o e S K = aOpQ P C o e S' K := by
  unfold aOpQ aOpE
  unfold opClass at ho
  generalize o.op = op at ho
  cases op <;> first | (exfalso; simp at ho; done) | rfl
/-- What was there to be read is there still. -/
def Keeps (S S' : St) : Prop := ∀ b e cells, S b = some (.obj e cells) → S' b = some (.obj e cells)
theorem Keeps.refl (S : St) : Keeps S S := fun _ _ _ h => h
theorem Keeps.upd {S : St} {b : Nat} (hb : S b = none) (o : Own) : Keeps S (S.upd b o) := fun x e cells h => by rw [St.upd_ne _ _ _ _ (St.ne_of hb h)]; exact h
theorem Keeps.del {S : St} {b : Nat} {e : TypeId} {k n : Nat} (hb : S b = some (.tip e k n)) : Keeps S (S.del b) := fun x e cells h => by
  have : x ≠ b := fun hx => by rw [hx, hb] at h; cases h
  rw [St.del_ne _ _ _ this]; exact h
theorem Keeps.trans {S S' S'' : St} (h : Keeps S S') (h' : Keeps S' S'') : Keeps S S'' := fun b e c hh => h' b e c (h b e c hh)
/-- A way to go on. -/
structure Mon (S : St) (keep : Prop) (F : (AV → St → Prop) → Prop) : Prop where
  mono : ∀ K K' : AV → St → Prop, (∀ x S', K x S' → (keep → Keeps S S') → K' x S') → F K → F K'
theorem Mon.no {S : St} {k : Prop} : Mon S k fun _ => False := ⟨fun _ _ _ h => h⟩
theorem Mon.id {S S' : St} {k : Prop} (x : AV) (h : k → Keeps S S') : Mon S k fun K => K x S' := ⟨fun K K' hh hk => hh x S' hk h⟩
theorem Mon.and {S : St} {k : Prop} {p : Prop} {F} (h : p → Mon S k F) : Mon S k fun K => p ∧ F K := ⟨fun K K' hh hk => ⟨hk.1, (h hk.1).mono K K' hh hk.2⟩⟩
theorem Mon.imp {S : St} {k : Prop} {p : Prop} {F} (h : p → Mon S k F) : Mon S k fun K => p → F K := ⟨fun K K' hh hk hp => (h hp).mono K K' hh (hk hp)⟩
theorem Mon.all {S : St} {k : Prop} {α : Type} {F : α → (AV → St → Prop) → Prop} (h : ∀ a, Mon S k (F a)) : Mon S k fun K => ∀ a, F a K := ⟨fun K K' hh hk a => (h a).mono K K' hh (hk a)⟩
theorem Mon.ex {S : St} {k : Prop} {α : Type} {F : α → (AV → St → Prop) → Prop} (h : ∀ a, Mon S k (F a)) : Mon S k fun K => ∃ a, F a K := ⟨fun K K' hh ⟨a, hk⟩ => ⟨a, (h a).mono K K' hh hk⟩⟩
theorem Mon.when {S : St} {k : Prop} {b : Bool} {F} (h : Mon S k F) : Mon S k fun K => when b (F K) := by cases b; exact Mon.no; exact h
theorem Mon.split {S : St} {k : Prop} {b : Bool} {F F'} (h : Mon S k F) (h' : Mon S k F') : Mon S k fun K => split b (F K) (F' K) := by cases b; exact h'; exact h
theorem aAppend_mon (t : TypeId) (s x : AV) (S : St) : Mon S True (aAppend C t s x S) := by
  unfold aAppend
  cases (C.T t).kind <;> first | exact Mon.no | skip
  rename_i e
  dsimp only
  refine Mon.when ?_
  cases x <;> first | exact Mon.no | skip
  · cases s <;> first | exact Mon.no | exact Mon.id _ fun _ => Keeps.refl S
  · rename_i sh' k' new
    dsimp only
    refine Mon.when ?_
    cases s <;> first | exact Mon.no | skip
    · refine Mon.and fun _ => ?_
      cases new with
      | nil => exact Mon.id _ fun _ => Keeps.refl S
      | cons r rs => exact Mon.all fun b => Mon.imp fun hb => Mon.id _ fun _ => Keeps.upd hb _
    · rename_i sh k es
      cases sh <;> first | exact Mon.no | skip
      · refine Mon.when (Mon.and fun _ => ?_)
        cases new with
        | nil => exact Mon.id _ fun _ => Keeps.refl S
        | cons r rs => exact Mon.all fun b => Mon.imp fun hb => Mon.id _ fun _ => Keeps.upd hb _
      · rename_i b
        refine Mon.when (Mon.and fun h => Mon.all fun b' => Mon.imp fun hb => Mon.id _ fun _ => (Keeps.del h.1).trans (Keeps.upd hb _))
      · rename_i b
        refine Mon.when (Mon.and fun h => ?_)
        cases new with
        | nil => exact Mon.id _ fun _ => Keeps.refl S
        | cons r rs =>
          refine Mon.all fun S₁ => Mon.imp fun h1 => Mon.imp fun h2 => Mon.all fun b' => Mon.imp fun hb => Mon.id _ fun _ => Keeps.trans ?_ (Keeps.upd hb _)
          by_cases he : es = []
          · rw [h1 he]; exact Keeps.refl S
          · rw [h2 he]; exact Keeps.del (h.1 he)
theorem aLen_mon (t : TypeId) (x : AV) (S : St) (k : Prop) : Mon S k fun K => aLen C t x S fun y => K y S := by
  unfold aLen
  cases (C.T t).kind <;> first | exact Mon.no | (cases x <;> first | exact Mon.no | exact Mon.id _ (fun _ => Keeps.refl S) | exact Mon.imp fun _ => Mon.id _ (fun _ => Keeps.refl S) | exact Mon.ex fun _ => Mon.and fun _ => Mon.id _ (fun _ => Keeps.refl S))
theorem aMM_mon (mx : Bool) (S : St) (k : Prop) : ∀ (r : List AV) (x : AV), Mon S k fun K => aMM mx x r fun y => K y S
  | [], x => by unfold aMM; simp only [force_eq]; exact Mon.id _ (fun _ => Keeps.refl S)
  | y :: r, x => by
    unfold aMM
    cases x <;> first | exact Mon.no | (cases y <;> first | exact Mon.no | exact aMM_mon mx S k r _)
theorem Triple.mono {f : FuncId} {args : List AV} {S : St} {Q Q' : Out → St → Prop} (h : Triple P C f args S Q) (hq : ∀ o S', Q o S' → Q' o S') : Triple P C f args S Q' :=
  ⟨fun w vs hY hg hr => (h.out w vs hY hg hr).mono fun e w' ⟨o, S', h1, h2, h3, h4⟩ => ⟨o, S', h1, h2, h3, hq _ _ h4⟩⟩
theorem aStore_mono (t : TypeId) (p x : AV) (S : St) (K K' : St → Prop) (h : ∀ S', K S' → K' S') : aStore C t p x S K → aStore C t p x S K' := by
  unfold aStore
  cases p <;> first | exact fun h => h | skip
  simp only [when_iff, forceL_eq]
  rintro ⟨h1, e, cells, h2, h3, h4⟩
  exact ⟨h1, e, cells, h2, h3, h _ h4⟩
theorem aSetK_mono {k v : AV} : ∀ {es : List (AV × AV)} {K K' : List (AV × AV) → Prop}, (∀ es, K es → K' es) → aSetK k v es K → aSetK k v es K'
  | [], K, K', hh, h => hh _ h
  | (k0, v0) :: r, K, K', hh, h => by
    unfold aSetK at h ⊢
    cases hq : keyEq k k0 with
    | none => rw [hq] at h; exact h
    | some b =>
      rw [hq] at h
      dsimp only at h ⊢
      rw [split_iff] at h ⊢
      exact ⟨fun hb => hh _ (h.1 hb), fun hb => aSetK_mono (fun es he => hh _ he) (h.2 hb)⟩
theorem aFindK_mono {k : AV} {Kn Kn' : Prop} (hn : Kn → Kn') {K K' : AV → Prop} (hh : ∀ v, K v → K' v) : ∀ {es : List (AV × AV)}, aFindK k es K Kn → aFindK k es K' Kn'
  | [], h => hn h
  | (k0, v0) :: r, h => by
    unfold aFindK at h ⊢
    cases hq : keyEq k k0 with
    | none => rw [hq] at h; exact h
    | some b =>
      rw [hq] at h
      dsimp only at h ⊢
      rw [split_iff] at h ⊢
      exact ⟨fun hb => hh _ (h.1 hb), fun hb => aFindK_mono hn hh (h.2 hb)⟩
theorem aGrow_mon (e : TypeId) (s : AV) (new : List (List AV)) (S : St) : Mon S True (aGrow C e s new S) := by
  have step : ∀ {b n m b' S'}, AccStep S b e (C.T e).size n m b' S' → (0 < n → S b = some (.tip e (C.T e).size n)) → Keeps S S' := by
    intro b n m b' S' h ht
    rcases h with ⟨_, _, rfl⟩ | ⟨_, S₁, h1, h2, h3, rfl⟩
    · exact Keeps.refl _
    · refine Keeps.trans ?_ (Keeps.upd h3 _)
      rcases Nat.eq_zero_or_pos n with h | h
      · rw [h1 h]; exact Keeps.refl S
      · rw [h2 h]; exact Keeps.del (ht h)
  unfold aGrow
  refine Mon.when ?_
  cases s <;> first | exact Mon.no | skip
  · exact Mon.and fun _ => Mon.all fun b => Mon.all fun S' => Mon.imp fun h => Mon.id _ fun _ => step h (fun h => absurd h (by omega))
  · rename_i sh k es
    cases sh <;> first | exact Mon.no | skip
    · exact Mon.when (Mon.and fun h => Mon.all fun b' => Mon.imp fun hb => Mon.id _ fun _ => (Keeps.del h.1).trans (Keeps.upd hb _))
    · exact Mon.when (Mon.and fun h => Mon.all fun b' => Mon.all fun S' => Mon.imp fun hs => Mon.id _ fun _ => step hs h.1)
theorem aSrc_mono (e tx : TypeId) (x : AV) (S : St) (K K' : List (List AV) → Prop) (h : ∀ l, K l → K' l) : aSrc C e tx x S K → aSrc C e tx x S K' := by
  unfold aSrc
  cases (C.T tx).kind <;> first | exact fun h => h | (cases x <;> first | exact fun h => h | skip)
  · simp only [when_iff]; exact fun hh => ⟨hh.1, h _ hh.2⟩
  · simp only [when_iff]
    rintro ⟨h1, te, cells, h2, h3, h4⟩
    exact ⟨h1, te, cells, h2, h3, h _ h4⟩
theorem aOpE_mon {o : Oper} (ho : 2 ≤ opClass o) (e : Operand → AV) (S : St) (Qp : AV → St → Prop) : Mon S (opClass o = 2) fun K => aOpE P C o e S K Qp := by
  unfold opClass at ho ⊢
  unfold aOpE
  generalize o.op = op at ho ⊢
  cases op <;> first | (exfalso; simp at ho; done) | exact Mon.no | skip
  case alloc t =>
    simp only [forceL_eq]
    exact Mon.when (Mon.all fun b => Mon.imp fun hb => Mon.id _ fun _ => Keeps.upd hb _)
  case box t x =>
    simp only [forceL_eq, force_eq]
    exact Mon.when (Mon.all fun b => Mon.imp fun hb => Mon.id _ fun _ => Keeps.upd hb _)
  case store t p x =>
    simp only [force_eq]
    exact ⟨fun K K' hh hk => aStore_mono t _ _ S _ _ (fun S' h' => hh _ _ h' (fun h => by simp at h)) hk⟩
  case buildSlice t n ps =>
    simp only [forceR_eq]
    cases (C.T t).kind <;> first | exact Mon.no | skip
    dsimp only
    refine Mon.when ?_
    cases aFill _ _ _ with
    | none => exact Mon.no
    | some cells => exact Mon.all fun b => Mon.imp fun hb => Mon.id _ fun _ => Keeps.upd hb _
  case makeSlice t l c =>
    dsimp only
    cases (C.T t).kind <;> first | exact Mon.no | skip
    cases e l <;> first | exact Mon.no | skip
    cases e c <;> first | exact Mon.no | skip
    exact Mon.when (Mon.and fun _ => Mon.all fun b => Mon.imp fun hb => Mon.id _ fun _ => Keeps.upd hb _)
  case typeAssert x xt asserted ok =>
    clear ho
    simp only [force_eq]
    have main : Mon S ((3 : Nat) = 2) fun K => (match e x, ok with
        | .nili, true => K (.tu [ofV (C.T asserted).zero, .bool false]) S
        | .ifc t y, true => (match Nat.beq t asserted with
            | true => K (.tu [y, .bool true]) S
            | false => K (.tu [ofV (C.T asserted).zero, .bool false]) S)
        | .ifc t y, false => when (Nat.beq t asserted) (K y S)
        | _, _ => False : Prop) := by
      cases e x <;> first | exact Mon.no | skip
      · cases ok
        · exact Mon.no
        · exact Mon.id _ fun _ => Keeps.refl S
      · rename_i t y
        cases ok
        · exact Mon.when (Mon.id _ fun _ => Keeps.refl S)
        · dsimp only
          cases Nat.beq t asserted <;> exact Mon.id _ fun _ => Keeps.refl S
    cases (C.T asserted).kind <;> first | exact Mon.no | exact main
  case makeMap t r =>
    cases r with
    | some _ => exact Mon.no
    | none =>
      dsimp only
      cases (C.T t).kind <;> first | exact Mon.no | exact Mon.all fun b => Mon.imp fun hb => Mon.id _ fun _ => Keeps.upd hb _
  case insert t m k v =>
    simp only [force_eq]
    cases (C.T t).kind <;> first | exact Mon.no | skip
    cases e m <;> first | exact Mon.no | skip
    exact Mon.when (Mon.ex fun es => Mon.and fun _ => ⟨fun K K' hh hk => aSetK_mono (fun es' h' => hh _ _ h' fun h => by simp at h) hk⟩)
  case mapUpdate t m k v =>
    simp only [force_eq]
    cases (C.T t).kind <;> first | exact Mon.no | skip
    cases e m <;> first | exact Mon.no | skip
    exact Mon.when (Mon.ex fun es => Mon.and fun _ => ⟨fun K K' hh hk => aSetK_mono (fun es' h' => hh _ _ h' fun h => by simp at h) hk⟩)
  case lookup t m k ok =>
    simp only [force_eq]
    cases (C.T t).kind <;> first | exact Mon.no | skip
    cases e m <;> first | exact Mon.no | skip
    · exact Mon.when (Mon.id _ fun _ => Keeps.refl S)
    · exact Mon.when (Mon.ex fun es => Mon.and fun _ => ⟨fun K K' hh hk => aFindK_mono (fun h' => hh _ _ h' fun _ => Keeps.refl S) (fun v h' => hh _ _ h' fun _ => Keeps.refl S) hk⟩)
  case range t x =>
    dsimp only
    cases (C.T t).kind <;> first | exact Mon.no | (cases e x <;> first | exact Mon.no | exact Mon.all fun b => Mon.imp fun hb => Mon.id _ fun _ => Keeps.upd hb _ | exact Mon.ex fun es => Mon.and fun _ => Mon.all fun b => Mon.imp fun hb => Mon.id _ fun h => by simp at h)
  case entry x =>
    dsimp only
    cases e x <;> first | exact Mon.no | skip
    rename_i b off
    cases off with
    | succ off => exact Mon.no
    | zero => exact Mon.ex fun kv => Mon.ex fun left => Mon.and fun _ => Mon.id _ fun _ => Keeps.refl S
  case next x str =>
    cases str with
    | false =>
      dsimp only
      cases e x <;> first | exact Mon.no | skip
      rename_i b off
      cases off with
      | succ off => exact Mon.no
      | zero =>
        refine Mon.ex fun cur => Mon.ex fun left => Mon.and fun hS => ⟨fun K K' hh hk => ⟨fun h0 => hh _ _ (hk.1 h0) fun _ => Keeps.refl S, fun pre kv post hp => hh _ _ (hk.2 pre kv post hp) fun h => by simp at h⟩⟩
    | true =>
      dsimp only
      cases e x <;> first | exact Mon.no | skip
      rename_i b off
      cases off with
      | succ off => exact Mon.no
      | zero => exact Mon.ex fun s => Mon.ex fun pos => Mon.and fun hS => Mon.split (Mon.id _ fun h => by simp at h) (Mon.id _ fun _ => Keeps.refl S)
  case panic x =>
    exact ⟨fun K K' hh hk => hk⟩
  case call c =>
    dsimp only
    cases hc : c.callee <;> first | exact Mon.no | skip
    · rename_i f
      dsimp only
      unfold aCall
      cases e f <;> first | exact Mon.no | skip
      rename_i g first cap
      cases g <;> first | exact Mon.no | skip
      simp only [forceL_eq]
      exact ⟨fun K K' hh hk => hk.mono fun o S' ho' => by
        cases o with
        | ret x => exact hh x S' ho' (fun h => by simp at h)
        | pan x => exact ho'⟩
    · rename_i b
      dsimp only
      unfold aBuiltin
      constructor
      intro K K' hh hk
      split at hk
      · exact (aLen_mon _ _ S _).mono K K' hh hk
      · split at hk
        · split at hk
          · exact aSrc_mono _ _ _ S _ _ (fun l h' => (aGrow_mon _ _ l S).mono K K' (fun x S' h1 h2 => hh x S' h1 fun _ => h2 trivial) h') hk
          · exact hk
        · rw [when_iff] at hk ⊢
          exact ⟨hk.1, (aAppend_mon _ _ _ S).mono K K' (fun x S' h1 h2 => hh x S' h1 fun _ => h2 trivial) hk.2⟩
      · split at hk
        · exact hh _ _ hk fun _ => Keeps.refl S
        · exact hk
      · exact (aMM_mon _ S _ _ _).mono K K' hh hk
      · exact (aMM_mon _ S _ _ _).mono K K' hh hk
      · exact hk
theorem aOpQ_stay {o : Oper} (ho : opClass o ≤ 1) {e : Operand → AV} {S : St} {K : AV → Prop} (h : aOpQ P C o e S K) : aOpE P C o e S (fun y S' => K y ∧ S' = S) (fun _ _ => False) := by
  have h' := (aOpQ_det (P := P) (C := C) ho e S).mono K (fun y => K y ∧ S = S) (fun x hx => ⟨hx, rfl⟩) h
  unfold aOpQ at h'
  unfold aOpE at h' ⊢
  unfold opClass at ho
  generalize o.op = op at ho h' ⊢
  cases op <;> first | (exfalso; simp at ho; done) | exact h' | skip
  case binOp op t x y yt =>
    dsimp only at h' ⊢
    cases hn : nilTest C op t (e x) (e y) with
    | none => exact h'
    | some r => exact absurd h' (nilTest_bin hn)
  rename_i c
  dsimp only at h' ⊢
  split at h'
  · rename_i t x hc ht hx
    rw [hc, ht, hx]
    show aLen C t (e x) S fun y => K y ∧ S = S
    unfold aLenQ at h'
    unfold aLen
    split at h' <;> first | exact h'.elim | skip
    · rename_i hk hv; rw [hk, hv]; exact h'
    · rename_i hk hv; rw [hk, hv]; exact fun _ => h'
    · rename_i hk hv; rw [hk, hv]; exact h'
    · rename_i hk hv; rw [hk, hv]; exact h'
  · exact h'.elim
theorem RQ_stay {c : Nat} {o : Oper} (hc : c = 4 ∨ opClass o ≤ 1) {e : Operand → AV} {S : St} {x : AV} (h : RQ P C c o e S x) : aOpE P C o e S (fun y S' => y = x ∧ S' = S) (fun _ _ => False) := by
  unfold RQ at h
  split at h
  · exact h
  · rename_i hne
    rcases hc with hc | hc
    · exact absurd hc hne
    · exact aOpQ_stay hc h

def wantedR (ops : Array Oper) (o : Oper) (ρ : Nat → AV) : Option Bool :=
  match o.guard with
  | none => some true
  | some (j, want) =>
    match (ops[j]?).bind (·.dst) with
    | some d => (match ρ d with | .bool b => some (b == want) | .tu [] => some false | _ => none)
    | none => none
def quietC (c : Nat) : Bool := Nat.ble c 1 || Nat.beq c 4
def RCore (P : Program) (C : Cx) (c : Nat) (o : Oper) (ρ : Nat → AV) (S : St) (K : (Nat → AV) → St → Prop) (Qp : AV → St → Prop) : Prop :=
  if quietC c = true then ∃ x, RQ P C c o (evR C ρ) S x ∧ K (rput o.dst x ρ) S else aOpE P C o (evR C ρ) S (fun x S' => K (rput o.dst x ρ) S') Qp
def RStep (P : Program) (C : Cx) (qc : List Nat) (ops : Array Oper) (i : Nat) (ρ : Nat → AV) (S : St) (K : (Nat → AV) → St → Prop) (Qp : AV → St → Prop) : Prop :=
  ∃ o, ops[i]? = some o ∧ ((wantedR ops o ρ = some true ∧ RCore P C (clsOf qc i o) o ρ S K Qp) ∨ (wantedR ops o ρ = some false ∧ K (rput o.dst (.tu []) ρ) S))
theorem opClass_le (o : Oper) : opClass o ≤ 3 := by
  unfold opClass
  split <;> first | omega | (split <;> omega)
theorem clsOf_cases (qc : List Nat) (i : Nat) (o : Oper) : clsOf qc i o = 4 ∨ clsOf qc i o = opClass o := by
  unfold clsOf
  cases qc.any (Nat.beq i) <;> simp
theorem cls_quiet {qc : List Nat} {i : Nat} {o : Oper} (h : quietC (clsOf qc i o) = true) : clsOf qc i o = 4 ∨ (clsOf qc i o = opClass o ∧ opClass o ≤ 1) := by
  rcases clsOf_cases qc i o with h' | h'
  · exact .inl h'
  · right
    refine ⟨h', ?_⟩
    rw [h'] at h
    have := opClass_le o
    simp only [quietC, Bool.or_eq_true] at h
    rcases h with h | h
    · exact Nat.le_of_ble_eq_true h
    · have := Nat.eq_of_beq_eq_true h; omega
theorem cls_loud {qc : List Nat} {i : Nat} {o : Oper} (h : quietC (clsOf qc i o) ≠ true) : clsOf qc i o = opClass o ∧ 2 ≤ opClass o := by
  rcases clsOf_cases qc i o with h' | h'
  · rw [h'] at h; exact absurd rfl h
  · refine ⟨h', ?_⟩
    rw [h'] at h
    rcases Nat.lt_or_ge (opClass o) 2 with hl | hl
    · exfalso; apply h
      simp only [quietC, Bool.or_eq_true]
      exact .inl (Nat.ble_eq_true_of_le (by omega))
    · exact hl
theorem RCore.mono {c : Nat} {o : Oper} {ρ : Nat → AV} {S : St} {K K' : (Nat → AV) → St → Prop} {Qp : AV → St → Prop} (hc : quietC c ≠ true → 2 ≤ opClass o) (hh : ∀ ρ' S', K ρ' S' → K' ρ' S') (h : RCore P C c o ρ S K Qp) : RCore P C c o ρ S K' Qp := by
  unfold RCore at *
  split at h
  · rename_i hq
    obtain ⟨x, h1, h2⟩ := h
    rw [if_pos hq]
    exact ⟨x, h1, hh _ _ h2⟩
  · rename_i hq
    rw [if_neg hq]
    exact (aOpE_mon (hc hq) _ S Qp).mono _ _ (fun x S' h1 _ => hh _ _ h1) h
theorem RStep.mono {qc : List Nat} {ops : Array Oper} {i : Nat} {ρ : Nat → AV} {S : St} {K K' : (Nat → AV) → St → Prop} {Qp : AV → St → Prop} (hh : ∀ ρ' S', K ρ' S' → K' ρ' S') (h : RStep P C qc ops i ρ S K Qp) : RStep P C qc ops i ρ S K' Qp := by
  obtain ⟨o, h1, h2⟩ := h
  refine ⟨o, h1, ?_⟩
  rcases h2 with ⟨h2, h3⟩ | ⟨h2, h3⟩
  · exact .inl ⟨h2, h3.mono (fun h => (cls_loud h).2) hh⟩
  · exact .inr ⟨h2, hh _ _ h3⟩
/-- What the operation yields, if it leaves the store. -/
def YR (P : Program) (C : Cx) (qc : List Nat) (ops : Array Oper) (i : Nat) (o : Oper) (ρ : Nat → AV) (S : St) (v : AV) : Prop :=
  (wantedR ops o ρ = some true ∧ RQ P C (clsOf qc i o) o (evR C ρ) S v) ∨ (wantedR ops o ρ = some false ∧ v = .tu [])
theorem looks_op {ops : Array Oper} {o : Oper} {d : Tmp} (h : d ∉ o.looksAt ops) : ∀ x ∈ o.op.operands, x ≠ .tmp d := by
  intro x hx e
  subst e
  apply h
  unfold Oper.looksAt
  refine List.mem_append.2 (.inl (List.mem_filterMap.2 ⟨.tmp d, by simpa using hx, rfl⟩))
theorem evR_keep {ops : Array Oper} {o : Oper} {dst : Option Tmp} {u : AV} {ρ : Nat → AV} (h : ∀ d, dst = some d → d ∉ o.looksAt ops) : ∀ x ∈ o.op.operands, evR C (rput dst u ρ) x = evR C ρ x :=
  fun x hx => evR_put fun t ht => looks_op (h t ht) x hx
theorem wantedR_keep {ops : Array Oper} {o : Oper} {dst : Option Tmp} {u : AV} {ρ : Nat → AV} (h : ∀ d, dst = some d → d ∉ o.looksAt ops) : wantedR ops o (rput dst u ρ) = wantedR ops o ρ := by
  unfold wantedR
  split
  · rfl
  · rename_i j want hg
    split
    · rename_i d hd
      have : rput dst u ρ d = ρ d := by
        cases dst with
        | none => rfl
        | some d' =>
          have hne : d' ≠ d := by
            intro e
            subst e
            apply h d' rfl
            unfold Oper.looksAt
            rw [hg]
            refine List.mem_append.2 (.inr ?_)
            dsimp only
            rw [hd]; simp
          simp only [rput, if_neg hne]
      rw [this]
    · rfl
theorem YR.keep {qc : List Nat} {ops : Array Oper} {i : Nat} {o : Oper} {ρ : Nat → AV} {S : St} {v u : AV} {dst : Option Tmp} (h : ∀ d, dst = some d → d ∉ o.looksAt ops) (hy : YR P C qc ops i o ρ S v) : YR P C qc ops i o (rput dst u ρ) S v := by
  unfold YR at *
  rw [wantedR_keep h, RQ_congr (evR_keep h)]
  exact hy
theorem YR.turn {qc : List Nat} {ops : Array Oper} {i : Nat} {o : Oper} {ρ : Nat → AV} {S S' : St} {v : AV} (hc : clsOf qc i o = 0 ∨ (clsOf qc i o = 1 ∧ Keeps S S')) (hy : YR P C qc ops i o ρ S v) : YR P C qc ops i o ρ S' v := by
  have hcl : clsOf qc i o = opClass o := by
    rcases clsOf_cases qc i o with h | h
    · rcases hc with hc | ⟨hc, _⟩ <;> omega
    · exact h
  unfold YR at *
  rcases hy with ⟨h1, h2⟩ | h
  · refine .inl ⟨h1, ?_⟩
    rcases hc with hc | ⟨hc, hk⟩
    · rw [hc] at h2 ⊢
      simp only [RQ] at h2 ⊢
      rw [aOpQ_light (by omega) _ S' S]; exact h2
    · rw [hc] at h2 ⊢
      simp only [RQ] at h2 ⊢
      have ho : opClass o = 1 := by omega
      unfold opClass at ho
      unfold aOpQ aOpE at h2 ⊢
      generalize o.op = op at ho h2 ⊢
      cases op <;> first | (exfalso; simp at ho; done) | skip
      · rename_i t p
        dsimp only at h2 ⊢
        unfold aLoad at h2 ⊢
        generalize evR C ρ p = q at h2 ⊢
        cases q <;> first | exact h2 | skip
        dsimp only at h2 ⊢
        rw [when_iff] at h2 ⊢
        obtain ⟨k1, e, cells, k2, k3⟩ := h2
        exact ⟨k1, e, cells, hk _ _ _ k2, k3⟩
      · rename_i c
        exfalso
        dsimp only at ho
        split at ho <;> omega
  · exact .inr h
theorem rstep_put {qc : List Nat} {ops : Array Oper} {i j : Nat} {oi oj : Oper} (hj : ops[j]? = some oj) (hap : oi.apart ops oj = true) (hmix : mixes (clsOf qc i oi) (clsOf qc j oj) = true)
    {ρ : Nat → AV} {S : St} {v : AV} {K : (Nat → AV) → St → Prop} {Qp : AV → St → Prop} (hy : YR P C qc ops i oi ρ S v) (h : RStep P C qc ops j (rput oi.dst v ρ) S K Qp) :
    RStep P C qc ops j ρ S (fun ρ' S' => YR P C qc ops i oi ρ' S' v ∧ K (rput oi.dst v ρ') S') Qp := by
  obtain ⟨a1, a2, a3⟩ := Oper.apart_spec hap
  obtain ⟨o, ho, h⟩ := h
  rw [hj] at ho
  obtain rfl : oj = o := by simpa using ho
  refine ⟨oj, hj, ?_⟩
  rw [wantedR_keep a1] at h
  rcases h with ⟨h1, h2⟩ | ⟨h1, h2⟩
  · refine .inl ⟨h1, ?_⟩
    unfold RCore at *
    split at h2
    · rename_i hq
      rw [if_pos hq]
      obtain ⟨x, k1, k2⟩ := h2
      rw [RQ_congr (evR_keep a1)] at k1
      refine ⟨x, k1, hy.keep a3, ?_⟩
      rw [rput_comm a2]; exact k2
    · rename_i hq
      rw [if_neg hq]
      obtain ⟨c1, c2⟩ := cls_loud hq
      rw [aOpE_congr (evR_keep a1)] at h2
      refine (aOpE_mon c2 _ S Qp).mono _ _ (fun x S' m1 m2 => ⟨(YR.turn ?_ hy).keep a3, by rw [rput_comm a2]; exact m1⟩) h2
      rw [c1] at hmix
      have h3 := opClass_le oj
      unfold mixes at hmix
      split at hmix
      · rename_i e; exact .inl e
      · rename_i e
        simp only [Bool.or_eq_true] at hmix
        refine .inr ⟨e, m2 ?_⟩
        rcases hmix with hm | hm
        · have := Nat.le_of_ble_eq_true hm; omega
        · have := Nat.eq_of_beq_eq_true hm; omega
      · simp only [Bool.or_eq_true] at hmix
        rcases hmix with hm | hm
        · have := Nat.le_of_ble_eq_true hm; omega
        · have := Nat.eq_of_beq_eq_true hm; omega
      · cases hmix
  · refine .inr ⟨h1, hy.keep a3, ?_⟩
    rw [rput_comm a2]; exact h2
def AnyR (P : Program) (C : Cx) (qc : List Nat) (ops : Array Oper) (K : (Nat → AV) → St → Prop) (Qp : AV → St → Prop) : Nat → Array Bool → (Nat → AV) → St → Prop
  | 0, listed, ρ, S => Region.ready .any ops listed = [] ∧ K ρ S
  | n + 1, listed, ρ, S => (Region.ready .any ops listed = [] → K ρ S) ∧ ∀ j ∈ Region.ready .any ops listed, RStep P C qc ops j ρ S (AnyR P C qc ops K Qp n (listed.setIfInBounds j true)) Qp
theorem YR.step {qc : List Nat} {ops : Array Oper} {i : Nat} {o : Oper} (hi : ops[i]? = some o) (hq : quietC (clsOf qc i o) = true) {ρ : Nat → AV} {S : St} {v : AV} {K : (Nat → AV) → St → Prop} {Qp : AV → St → Prop} (hy : YR P C qc ops i o ρ S v) (h : K (rput o.dst v ρ) S) : RStep P C qc ops i ρ S K Qp := by
  refine ⟨o, hi, ?_⟩
  rcases hy with ⟨h1, h2⟩ | ⟨h1, rfl⟩
  · exact .inl ⟨h1, by unfold RCore; rw [if_pos hq]; exact ⟨v, h2, h⟩⟩
  · exact .inr ⟨h1, h⟩
theorem any_first {qc : List Nat} {ops : Array Oper} {K : (Nat → AV) → St → Prop} {Qp : AV → St → Prop} {i : Nat} {oi : Oper} {v : AV} (hi : ops[i]? = some oi) (hq : quietC (clsOf qc i oi) = true) (D : Nat → Bool)
    (hD : ∀ j oj, ops[j]? = some oj → D j = true → ∃ e ∈ oj.after, Region.binds .any e = true ∧ (e.on = i ∨ D e.on = true)) :
    ∀ (fuel : Nat) (listed : Array Bool) (ρ : Nat → AV) (S : St),
      (∀ j oj, ops[j]? = some oj → j ≠ i → listed.getD j true = false → D j = false → oi.apart ops oj = true ∧ mixes (clsOf qc i oi) (clsOf qc j oj) = true) →
      (∀ j, D j = true → listed.getD j true = false) →
      i ∈ Region.ready .any ops listed → YR P C qc ops i oi ρ S v →
      AnyR P C qc ops K Qp fuel (listed.setIfInBounds i true) (rput oi.dst v ρ) S → AnyR P C qc ops K Qp (fuel + 1) listed ρ S := by
  intro fuel
  induction fuel with
  | zero =>
    intro listed ρ S _ _ hr hy H
    refine ⟨fun h => (by rw [h] at hr; cases hr), fun j hj => ?_⟩
    by_cases hji : j = i
    · subst hji; exact hy.step hi hq H
    · have := ready_mono hj hji
      rw [H.1] at this
      cases this
  | succ fuel ih =>
    intro listed ρ S hfree hun hr hy H
    refine ⟨fun h => (by rw [h] at hr; cases hr), fun j hj => ?_⟩
    by_cases hji : j = i
    · subst hji; exact hy.step hi hq H
    · have h1 := H.2 j (ready_mono hj hji)
      obtain ⟨hjun, oj, hoj, hall⟩ := mem_ready.1 hj
      have clash : ∀ m, listed.getD m true = false → listed.getD m false = true → False := fun m h0 h1 => by
        rcases Nat.lt_or_ge m listed.size with h' | h'
        · simp [h'] at h0 h1; rw [h0] at h1; cases h1
        · simp [Array.getElem?_eq_none h'] at h1
      have hnot : D j = false := by
        cases hDj : D j with
        | false => rfl
        | true =>
          obtain ⟨e, he, hb, hc⟩ := hD j oj hoj hDj
          have h1 := hall e he hb
          rcases hc with heq | hc
          · rw [heq] at h1
            exact (clash i (mem_ready.1 hr).1 h1).elim
          · exact (clash _ (hun _ hc) h1).elim
      obtain ⟨f1, f2⟩ := hfree j oj hoj hji hjun hnot
      have h2 := rstep_put hoj f1 f2 hy h1
      have hfree' : ∀ k ok, ops[k]? = some ok → k ≠ i → (listed.setIfInBounds j true).getD k true = false →
          D k = false → oi.apart ops ok = true ∧ mixes (clsOf qc i oi) (clsOf qc k ok) = true := fun k ok hk hki hun hno => by
        refine hfree k ok hk hki ?_ hno
        by_cases hjk : j = k
        · subst hjk; exact hjun
        · rw [getD_set_ne true hjk] at hun; exact hun
      have hun' : ∀ k, D k = true → (listed.setIfInBounds j true).getD k true = false := fun k hk => by
        have hkj : j ≠ k := fun e => by rw [← e, hnot] at hk; cases hk
        rw [getD_set_ne true hkj]; exact hun k hk
      refine h2.mono (fun ρ' S' h3 => ih (listed.setIfInBounds j true) ρ' S' hfree' hun' (ready_mono hr (Ne.symm hji)) h3.1 ?_)
      rw [Array.setIfInBounds_comm _ _ hji]
      exact h3.2
theorem aCore_quiet {c : Nat} {o : Oper} (hc : c = 4 ∨ (c = opClass o ∧ opClass o ≤ 1)) {e : Operand → AV} {S : St} {K Qp : AV → St → Prop} (h : aCore P C c o e S K Qp) : ∃ x, RQ P C c o e S x ∧ K x S := by
  rcases hc with rfl | ⟨rfl, ho⟩
  · exact h
  · have h' : aOpQ P C o e S fun x => K x S := by
      have h01 : opClass o = 0 ∨ opClass o = 1 := by omega
      rcases h01 with e | e <;> rw [e] at h <;> exact h
    obtain ⟨x, k1, k2⟩ := (aOpQ_det (P := P) (C := C) ho e S).one _ h'
    refine ⟨x, ?_, k2⟩
    unfold RQ
    split
    · omega
    · exact k1
theorem aCore_loud {c : Nat} {o : Oper} (hc : c = opClass o ∧ 2 ≤ opClass o) {e : Operand → AV} {S : St} {K Qp : AV → St → Prop} (h : aCore P C c o e S K Qp) : aOpE P C o e S K Qp := by
  have := opClass_le o
  unfold aCore at h
  split at h <;> first | omega | exact h
theorem aStep_inv {qc : List Nat} {ops : Array Oper} {i : Nat} {env : Env} {S : St} {K : Env → St → Prop} {Qp : AV → St → Prop} (h : aStep P C qc ops.toList i env S K Qp) :
    ∃ o, ops[i]? = some o ∧ ((wantedR ops o (fun t => look t env) = some true ∧ aCore P C (clsOf qc i o) o (evR C fun t => look t env) S (fun x S' => K (put o.dst x env) S') Qp) ∨
      (wantedR ops o (fun t => look t env) = some false ∧ K (put o.dst (.tu []) env) S)) := by
  unfold aStep at h
  simp only [putK_eq, ev_evR] at h
  split at h
  · exact h.elim
  · rename_i o ho
    refine ⟨o, by simpa using ho, ?_⟩
    split at h
    · rename_i hg
      exact .inl ⟨by simp [wantedR, hg], h⟩
    · rename_i j want hg
      split at h
      · rename_i d hd
        have hd' : (ops[j]?).bind (·.dst) = some d := by simpa using hd
        split at h
        · rename_i b hb
          have hw : wantedR ops o (fun t => look t env) = some (b == want) := by simp only [wantedR, hg, hd', hb]
          rw [split_iff] at h
          cases b <;> cases want
          · exact .inl ⟨hw, h.2 rfl⟩
          · exact .inr ⟨hw, h.2 rfl⟩
          · exact .inr ⟨hw, h.1 rfl⟩
          · exact .inl ⟨hw, h.1 rfl⟩
        · rename_i hb
          exact .inr ⟨by simp only [wantedR, hg, hd', hb], h⟩
        · exact h.elim
      · exact h.elim
theorem aStep_rstep {qc : List Nat} {ops : Array Oper} {i : Nat} {env : Env} {S : St} {K : Env → St → Prop} {KR : (Nat → AV) → St → Prop} {Qp : AV → St → Prop} (h : aStep P C qc ops.toList i env S K Qp)
    (hk : ∀ env' S', K env' S' → KR (fun t => look t env') S') : RStep P C qc ops i (fun t => look t env) S KR Qp := by
  obtain ⟨o, ho, h⟩ := aStep_inv h
  refine ⟨o, ho, ?_⟩
  rcases h with ⟨h1, h2⟩ | ⟨h1, h2⟩
  · refine .inl ⟨h1, ?_⟩
    unfold RCore
    split
    · rename_i hq
      obtain ⟨x, k1, k2⟩ := aCore_quiet (cls_quiet hq) h2
      exact ⟨x, k1, by rw [← look_put]; exact hk _ _ k2⟩
    · rename_i hq
      exact (aOpE_mon (cls_loud hq).2 _ S Qp).mono _ _ (fun x S' m1 _ => by rw [← look_put]; exact hk _ _ m1) (aCore_loud (cls_loud hq) h2)
  · exact .inr ⟨h1, by rw [← look_put]; exact hk _ _ h2⟩
theorem aStep_quiet {qc : List Nat} {ops : Array Oper} {i : Nat} {env : Env} {S : St} {K : Env → St → Prop} {Qp : AV → St → Prop} {o : Oper} (ho : ops[i]? = some o) (hq : quietC (clsOf qc i o) = true) (h : aStep P C qc ops.toList i env S K Qp) :
    ∃ v, YR P C qc ops i o (fun t => look t env) S v ∧ K (put o.dst v env) S := by
  obtain ⟨o', ho', h⟩ := aStep_inv h
  rw [ho] at ho'
  obtain rfl : o = o' := by simpa using ho'
  rcases h with ⟨h1, h2⟩ | ⟨h1, h2⟩
  · obtain ⟨x, k1, k2⟩ := aCore_quiet (cls_quiet hq) h2
    exact ⟨x, .inl ⟨h1, k1⟩, k2⟩
  · exact ⟨.tu [], .inr ⟨h1, rfl⟩, h2⟩
def AnyP (P : Program) (C : Cx) (qc : List Nat) (ops : Array Oper) (K : (Nat → AV) → St → Prop) (Qp : AV → St → Prop) (n : Nat) (listed : Array Bool) (acc : List Nat) (ρ : Nat → AV) (S : St) : Prop :=
  (Region.ready .any ops listed = [] → K ρ S) ∧ ∀ j ∈ Region.ready .any ops listed, acc.contains j = true ∨ ∃ m, n = m + 1 ∧ RStep P C qc ops j ρ S (AnyR P C qc ops K Qp m (listed.setIfInBounds j true)) Qp
theorem AnyP.any {qc : List Nat} {ops : Array Oper} {K : (Nat → AV) → St → Prop} {Qp : AV → St → Prop} {n : Nat} {listed : Array Bool} {ρ : Nat → AV} {S : St} (h : AnyP P C qc ops K Qp n listed [] ρ S) : AnyR P C qc ops K Qp n listed ρ S := by
  obtain ⟨h1, h2⟩ := h
  cases n with
  | zero =>
    have : Region.ready .any ops listed = [] := by
      cases hr : Region.ready .any ops listed with
      | nil => rfl
      | cons x xs =>
        rcases h2 x (by rw [hr]; simp) with h | ⟨m, h, _⟩
        · simp at h
        · omega
    exact ⟨this, h1 this⟩
  | succ n =>
    refine ⟨h1, fun j hj => ?_⟩
    rcases h2 j hj with h | ⟨m, h, h'⟩
    · simp at h
    · obtain rfl : n = m := by omega
      exact h'
theorem free_spec {qc : List Nat} {ops : Array Oper} {listed : Array Bool} {i : Nat} {oi : Oper} (hi : ops[i]? = some oi) (h : freeB qc ops listed i = true) :
    (∀ j oj, ops[j]? = some oj → (depsL ops i).any (Nat.beq j) = true → ∃ e ∈ oj.after, Region.binds .any e = true ∧ (e.on = i ∨ (depsL ops i).any (Nat.beq e.on) = true)) ∧
    (∀ j oj, ops[j]? = some oj → j ≠ i → listed.getD j true = false → (depsL ops i).any (Nat.beq j) = false → oi.apart ops oj = true ∧ mixes (clsOf qc i oi) (clsOf qc j oj) = true) ∧
    (∀ j, (depsL ops i).any (Nat.beq j) = true → listed.getD j true = false) := by
  unfold freeB at h
  rw [hi] at h
  simp only [Bool.and_eq_true, List.all_eq_true, List.mem_range] at h
  obtain ⟨h1, h2⟩ := h
  have mem : ∀ j, (depsL ops i).any (Nat.beq j) = true → j ∈ depsL ops i := fun j hj => by
    obtain ⟨x, hx, he⟩ := List.any_eq_true.1 hj
    rw [Nat.eq_of_beq_eq_true he]; exact hx
  refine ⟨fun j oj hj hd => ?_, fun j oj hj hji hun hd => ?_, fun j hd => ?_⟩
  · have := h1 j (mem j hd)
    rw [hj] at this
    simp only [Bool.and_eq_true] at this
    obtain ⟨_, ha⟩ := this
    rw [Array.any_eq_true'] at ha
    obtain ⟨e, he, hb⟩ := ha
    simp only [Bool.and_eq_true, Bool.or_eq_true] at hb
    exact ⟨e, he, hb.1, hb.2.imp Nat.eq_of_beq_eq_true id⟩
  · have hlt : j < ops.size := by
      rcases Nat.lt_or_ge j ops.size with h' | h'
      · exact h'
      · rw [Array.getElem?_eq_none h'] at hj; cases hj
    have := h2 j hlt
    rw [hj] at this
    simp only [Bool.or_eq_true, hun, hd, Bool.false_eq_true, or_false, Bool.and_eq_true] at this
    rcases this with h | h
    · exact absurd (Nat.eq_of_beq_eq_true h) hji
    · exact h
  · have := h1 j (mem j hd)
    cases hj : ops[j]? with
    | none => rw [hj] at this; cases this
    | some oj =>
      rw [hj] at this
      simp only [Bool.and_eq_true, Bool.not_eq_true'] at this
      exact this.1
theorem mixes_quiet {qc : List Nat} {ops : Array Oper} {listed : Array Bool} {i : Nat} {oi : Oper} (hi : ops[i]? = some oi) (h : Plan.quietAt qc ops i = true) : quietC (clsOf qc i oi) = true := by
  unfold Plan.quietAt at h
  rw [hi] at h
  exact h
theorem plan_any {qc : List Nat} {ops : Array Oper} {M : Env → St → Prop} {Qp : AV → St → Prop} : ∀ (pl : Plan) (n : Nat) (listed : Array Bool) (acc : List Nat) (env : Env) (S : St), pl.ok qc ops n listed acc = true →
    aPlan P C qc ops.toList pl env S M Qp → AnyP P C qc ops (fun ρ S' => ∃ env', (fun t => look t env') = ρ ∧ M env' S') Qp n listed acc (fun t => look t env) S
  | .done, n, listed, acc, env, S, hok, h => by
    have hr : Region.ready .any ops listed = [] := by
      have : (readyL ops listed).isEmpty = true := by cases n <;> exact hok
      simpa [readyL, Region.ready] using this
    exact ⟨fun _ => ⟨env, rfl, h⟩, fun j hj => by rw [hr] at hj; cases hj⟩
  | .free i p, 0, listed, acc, env, S, hok, h => by simp [Plan.ok] at hok
  | .free i p, n + 1, listed, acc, env, S, hok, h => by
    simp only [Plan.ok, Bool.and_eq_true] at hok
    obtain ⟨⟨⟨hr, hf⟩, hq⟩, hok⟩ := hok
    have hr : i ∈ Region.ready .any ops listed := List.mem_of_elem_eq_true hr
    obtain ⟨_, oi, hoi, _⟩ := mem_ready.1 hr
    have hq := mixes_quiet (listed := listed) hoi hq
    obtain ⟨v, k1, k2⟩ := aStep_quiet hoi hq h
    have := (plan_any p n _ [] _ _ hok k2).any
    rw [look_put] at this
    have hfs := free_spec hoi hf
    have hany := any_first hoi hq (fun j => (depsL ops i).any (Nat.beq j)) hfs.1 n listed _ S hfs.2.1 hfs.2.2 hr k1 this
    exact ⟨hany.1, fun j hj => .inr ⟨n, rfl, hany.2 j hj⟩⟩
  | .one i p q, 0, listed, acc, env, S, hok, h => by simp [Plan.ok] at hok
  | .one i p q, n + 1, listed, acc, env, S, hok, h => by
    simp only [Plan.ok, Bool.and_eq_true] at hok
    obtain ⟨hok1, hok2⟩ := hok
    have h : aStep P C qc ops.toList i env S (fun env' S' => aPlan P C qc ops.toList p env' S' M Qp) Qp ∧ aPlan P C qc ops.toList q env S M Qp := by
      cases q <;> first | exact h | exact ⟨h, trivial⟩
    obtain ⟨h1, h2⟩ := h
    obtain ⟨q1, q2⟩ := plan_any q (n + 1) listed (i :: acc) env S hok2 h2
    refine ⟨q1, fun j hj => ?_⟩
    by_cases hji : j = i
    · subst hji
      exact .inr ⟨n, rfl, aStep_rstep h1 fun env' S' hk => (plan_any p n _ [] _ _ hok1 hk).any⟩
    · rcases q2 j hj with h | h
      · left
        simpa [hji] using h
      · exact .inr h
  | .none, 0, listed, acc, env, S, hok, h => by simp [Plan.ok] at hok
  | .none, n + 1, listed, acc, env, S, hok, h => by
    simp only [Plan.ok, Bool.and_eq_true, List.all_eq_true] at hok
    obtain ⟨h1, h2⟩ := hok
    refine ⟨fun hr => ?_, fun j hj => .inl (h2 j hj)⟩
    simp only [Bool.not_eq_true'] at h1
    have : readyL ops listed = [] := hr
    rw [this] at h1
    simp at h1

structure RelF (w : World) (S : St) (tmps : Array Value) (ρ : Nat → AV) (n : Nat) : Prop where
  size : tmps.size = n
  at_ : ∀ t, Rel w (rdOf S) (ρ t) (tmps.getD t undef)
theorem RelF.mono {w w' : World} {S S' : St} {tmps : Array Value} {ρ : Nat → AV} {n : Nat} (h : RelF w S tmps ρ n) (ha : Adv w S w' S') : RelF w' S' tmps ρ n :=
  ⟨h.size, fun t => Rel.mono ha _ _ (h.at_ t)⟩
theorem RelF.put {w : World} {S : St} {a : Act} {ρ : Nat → AV} {n : Nat} (h : RelF w S a.tmps ρ n) (d : Option Tmp) (hd : ∀ t, d = some t → t < n) {x : AV} {v : Value} (hx : Rel w (rdOf S) x v) :
    RelF w S (a.put d v).tmps (rput d x ρ) n := by
  cases d with
  | none => exact h
  | some d =>
    have hdn := hd d rfl
    have hsz := h.size
    refine ⟨by simp [Act.put, h.size], fun t => ?_⟩
    simp only [Act.put, rput]
    by_cases e : d = t
    · subst e; simp only [if_true]; simp [Array.getD, h.size, hdn]; exact hx
    · simp only [if_neg e]
      have := h.at_ t
      simp only [Array.getD_eq_getD_getElem?, Array.getElem?_setIfInBounds_ne e] at this ⊢
      exact this
theorem evR_sound {w : World} {S : St} {a : Act} {ρ : Nat → AV} {n : Nat} (hg : Good C w S) (h : RelF w S a.tmps ρ n) (x : Operand) : Rel w (rdOf S) (evR C ρ x) (a.eval x) := by
  cases x with
  | tmp t => exact h.at_ t
  | const v => exact ev_sound (env := []) (a := a) (n := a.tmps.size) hg ⟨rfl, fun t => by simp only [look, Rel]⟩ (.const v)
  | func f => exact ev_sound (env := []) (a := a) (n := a.tmps.size) hg ⟨rfl, fun t => by simp only [look, Rel]⟩ (.func f)
  | global g => exact ev_sound (env := []) (a := a) (n := a.tmps.size) hg ⟨rfl, fun t => by simp only [look, Rel]⟩ (.global g)
theorem any_sound (hT : TyOk P C) {r : Option Nat} {m : Nat} {n : Nat} {qc : List Nat} {ops : Array Oper} {K : (Nat → AV) → St → Prop} {Qp : AV → St → Prop} (hd : ∀ o ∈ ops, ∀ d, o.dst = some d → d < n) {Q : Exit → Act → World → Prop} :
    ∀ (fuel : Nat) (listed : Array Bool) (ρ : Nat → AV) (a : Act) (w : World) (S : St), YOk P C w S → Good C w S → RelF w S a.tmps ρ n → AnyR P C qc ops K Qp fuel listed ρ S →
    (∀ ρ' a' w' S', K ρ' S' → RelF w' S' a'.tmps ρ' n → a'.defers = a.defers → Good C w' S' → Adv w S w' S' → Q .normal a' w') →
    (∀ x v a' w' S', Qp x S' → Rel w' (rdOf S') x v → a'.tmps.size = n → a'.defers = a.defers → Good C w' S' → Adv w S w' S' → Q (.panic [{ v, recovered := false }]) a' w') →
    wpAnyIn (Fr r) m P .any ops Q fuel listed a w := by
  intro fuel
  induction fuel with
  | zero =>
    intro listed ρ a w S hY hg he H hK hQ
    exact ⟨H.1, hK _ _ _ _ H.2 he rfl hg (Adv.refl w S)⟩
  | succ fuel ih =>
    intro listed ρ a w S hY hg he H hK hQ
    refine ⟨fun hr => hK _ _ _ _ (H.1 hr) he rfl hg (Adv.refl w S), fun i hi => ?_⟩
    obtain ⟨o, ho, hs⟩ := H.2 i hi
    have hdo : ∀ d, o.dst = some d → d < n := hd o (Array.mem_of_getElem? ho)
    have hdef : ∀ v, (a.put o.dst v).defers = a.defers := fun v => by cases o.dst <;> rfl
    have go : ∀ (x : AV) (v : Value) (w' : World) (S' : St), AnyR P C qc ops K Qp fuel (listed.setIfInBounds i true) (rput o.dst x ρ) S' → Rel w' (rdOf S') x v → Good C w' S' → Adv w S w' S' →
        wpAnyIn (Fr r) m P .any ops Q fuel (listed.setIfInBounds i true) (a.put o.dst v) w' := fun x v w' S' h1 h2 h3 h4 =>
      ih _ _ _ _ _ (hY.mono h4) h3 ((he.mono h4).put o.dst hdo h2) h1
        (fun ρ' a' w'' S'' m1 m2 m3 m4 m5 => hK ρ' a' w'' S'' m1 m2 (m3.trans (hdef v)) m4 (h4.trans m5))
        (fun x' v' a' w'' S'' m1 m2 m0 m3 m4 m5 => hQ x' v' a' w'' S'' m1 m2 m0 (m3.trans (hdef v)) m4 (h4.trans m5))
    have hwant : ∀ b, wantedR ops o ρ = some b → Region.wanted o (yielded ops a.tmps) = b := by
      intro b hb
      unfold wantedR at hb
      unfold Region.wanted
      split at hb
      · rename_i hgd; rw [hgd]; simpa using hb
      · rename_i j want hgd
        rw [hgd]
        dsimp only
        split at hb
        · rename_i d hdj
          split at hb
          · rename_i c hc
            have hbr := he.at_ d
            rw [hc] at hbr
            simp only [Rel] at hbr
            have hy : yielded ops a.tmps j = some c := by
              unfold yielded
              rw [hdj]
              simp only [Option.bind_some]
              rw [Array.getD_eq_getD_getElem?] at hbr
              cases e : a.tmps[d]? with
              | none => rw [e] at hbr; simp [undef] at hbr
              | some u => rw [e] at hbr; simp at hbr; subst hbr; rfl
            rw [hy]
            simp only [Option.some.injEq] at hb
            rw [← hb]
            cases c <;> cases want <;> rfl
          · rename_i hc
            have hbr := he.at_ d
            rw [hc] at hbr
            simp only [Rel, RelL] at hbr
            obtain ⟨cs, hbr, _⟩ := hbr
            have hy : yielded ops a.tmps j = none := by
              unfold yielded
              rw [hdj]
              simp only [Option.bind_some]
              rw [Array.getD_eq_getD_getElem?] at hbr
              cases e : a.tmps[d]? with
              | none => rfl
              | some u => rw [e] at hbr; simp at hbr; subst hbr; rfl
            rw [hy]
            simp only [Option.some.injEq] at hb
            rw [← hb]
            cases want <;> rfl
          · cases hb
        · cases hb
    unfold wpOpIn
    rw [ho]
    dsimp only
    rcases hs with ⟨h1, h2⟩ | ⟨h1, h2⟩
    · rw [if_pos (hwant _ h1)]
      unfold RCore at h2
      split at h2
      · rename_i hq
        obtain ⟨x, k1, k2⟩ := h2
        have hst := RQ_stay (by rcases cls_quiet hq with h | h; exact .inl h; exact .inr h.2) k1
        exact wpIn_of_wp (aOpE_nd hst) <| aOpE_sound hT hY hg (evR_sound hg he) hst (fun y v w' S' m1 m2 m3 m4 => go x v w' S' (by obtain ⟨_, rfl⟩ := m1; exact k2) (by obtain ⟨rfl, _⟩ := m1; exact m2) m3 m4) (fun _ _ _ _ h => h.elim)
      · exact wpIn_of_wp (aOpE_nd h2) <| aOpE_sound hT hY hg (evR_sound hg he) h2 (fun y v w' S' m1 m2 m3 m4 => go y v w' S' m1 m2 m3 m4) (fun x v w' S' m1 m2 m3 m4 => hQ x v a w' S' m1 m2 he.size rfl m3 m4)
    · rw [if_neg (by rw [hwant _ h1]; simp)]
      exact ⟨fun _ _ => trivial, go (.tu []) undef w S h2 (by simp only [Rel, RelL]; exact ⟨#[], rfl, rfl⟩) hg (Adv.refl w S)⟩
/-- A REGION THAT DRAWS ITS ORDER. -/
theorem draw_sound (hT : TyOk P C) {r : Option Nat} {m : Nat} (hm : P.follows .mixedOrders = true) {n : Nat} {id : Nat} {qc : List Nat} {pl : Plan} {ops : Array Oper} {M : Env → St → Prop} {Qp : AV → St → Prop} (hd : ∀ o ∈ ops, ∀ d, o.dst = some d → d < n)
    {a : Act} {w : World} {S : St} {env : Env} (hY : YOk P C w S) (hg : Good C w S) (he : RelEnv w S a.tmps env n) (hok : pl.ok qc ops ops.size (Array.replicate ops.size false) [] = true) (h : aPlan P C qc ops.toList pl env S M Qp) {Q : Exit → Act → World → Prop}
    (hK : ∀ env' a' w' S', M env' S' → RelEnv w' S' a'.tmps env' n → a'.defers = a.defers → Good C w' S' → Adv w S w' S' → Q .normal a' w')
    (hQ : ∀ x v a' w' S', Qp x S' → Rel w' (rdOf S') x v → a'.tmps.size = n → a'.defers = a.defers → Good C w' S' → Adv w S w' S' → Q (.panic [{ v, recovered := false }]) a' w') : (Code.region id ops true).wpIn (Fr r) m P Q a w := by
  have hadv : Adv w S w.drew S := (Adv.refl w S).drew
  refine wpIn_region_any hm (any_sound hT hd ops.size _ (fun t => look t env) a w.drew S (hY.mono hadv) hg.drew ?_ (plan_any pl _ _ [] env S hok h).any (fun ρ' a' w' S' m1 m2 m3 m4 m5 => ?_) (fun x v a' w' S' m1 m2 m0 m3 m4 m5 => hQ x v a' w' S' m1 m2 m0 m3 m4 (hadv.trans m5)))
  · exact ⟨he.size, (he.mono hadv).at_⟩
  · obtain ⟨env', rfl, hM⟩ := m1
    exact hK env' a' w' S' hM ⟨m2.size, m2.at_⟩ m3 m4 (hadv.trans m5)
end
end Go.Proofs.YtdlgedpmbeafdaaGreatDoor.Aw

set_option linter.unusedVariables false
set_option linter.unusedSimpArgs false
namespace Go.Proofs.YtdlgedpmbeafdaaGreatDoor.Aw
open Go Go.RowKit

section
variable {P : Program} {C : Cx}

theorem aOps_sound (hT : TyOk P C) {ro : Option Nat} {m : Nat} {n : Nat} (ops : Array Oper) : ∀ (l : List Oper), (∀ o ∈ l, ∀ d, o.dst = some d → d < n) → ∀ {a : Act} {w : World} {S : St} {env : Env}, YOk P C w S → Good C w S → RelEnv w S a.tmps env n →
    ∀ {K : Env → St → Prop} {Qp : AV → St → Prop}, aOps P C ops.toList l env S K Qp → ∀ {Q : Exit → Act → World → Prop},
    (∀ env' a' w' S', K env' S' → RelEnv w' S' a'.tmps env' n → a'.defers = a.defers → Good C w' S' → Adv w S w' S' → Q .normal a' w') →
    (∀ x v a' w' S', Qp x S' → Rel w' (rdOf S') x v → a'.tmps.size = n → a'.defers = a.defers → Good C w' S' → Adv w S w' S' → Q (.panic [{ v, recovered := false }]) a' w') →
    wpListIn (Fr ro) m P ops Q l a w
  | [], hd, a, w, S, env, hY, hg, he, K, Qp, h, Q, hK, hQ => hK _ _ _ _ h he rfl hg (Adv.refl w S)
  | o :: r, hd, a, w, S, env, hY, hg, he, K, Qp, h, Q, hK, hQ => by
    have hdr : ∀ o ∈ r, ∀ d, o.dst = some d → d < n := fun o ho => hd o (by simp [ho])
    have hdo : ∀ d, o.dst = some d → d < n := hd o (by simp)
    have hdef : ∀ v, (a.put o.dst v).defers = a.defers := fun v => by cases o.dst <;> rfl
    have rec_ : ∀ (env₁ : Env), RelEnv w S a.tmps env₁ n → aOp P C o env₁ S (fun x S' => aOps P C ops.toList r (put o.dst x env₁) S' K Qp) Qp → o.wpIn (Fr ro) m P a w (wpListIn (Fr ro) m P ops Q r) Q := fun env₁ he₁ h₁ =>
      aOp_sound hT hY hg he₁ h₁
        (fun x v w' S' k1 k2 k3 k4 => aOps_sound hT ops r hdr (hY.mono k4) k3 ((he₁.mono k4).put o.dst hdo k2) k1
          (fun env' a' w'' S'' m1 m2 m3 m4 m5 => hK env' a' w'' S'' m1 m2 (m3.trans (hdef v)) m4 (k4.trans m5))
          (fun x' v' a' w'' S'' m1 m2 m0 m3 m4 m5 => hQ x' v' a' w'' S'' m1 m2 m0 (m3.trans (hdef v)) m4 (k4.trans m5)))
        (fun x v w' S' k1 k2 k3 k4 => hQ x v a w' S' k1 k2 he.size rfl k3 k4)
    have skip_ : ∀ (env₁ : Env), RelEnv w S a.tmps env₁ n → aOps P C ops.toList r (put o.dst (.tu []) env₁) S K Qp → wpListIn (Fr ro) m P ops Q r (a.put o.dst undef) w := fun env₁ he₁ h₁ =>
      aOps_sound hT ops r hdr hY hg (he₁.put o.dst hdo (by simp only [Rel]; exact ⟨#[], rfl, by simp [RelL]⟩)) h₁
        (fun env' a' w'' S'' m1 m2 m3 m4 m5 => hK env' a' w'' S'' m1 m2 (m3.trans (hdef undef)) m4 m5)
        (fun x' v' a' w'' S'' m1 m2 m0 m3 m4 m5 => hQ x' v' a' w'' S'' m1 m2 m0 (m3.trans (hdef undef)) m4 m5)
    unfold wpListIn
    unfold aOps at h
    simp only [putK_eq] at h
    split at h
    · rename_i hgd
      have hw : Region.wanted o (yielded ops a.tmps) = true := by simp [Region.wanted, hgd]
      rw [if_pos hw]
      exact rec_ env he h
    · rename_i j want hgd
      split at h
      · rename_i d hdj
        have hdj' : (ops[j]?).bind (·.dst) = some d := by simpa using hdj
        split at h
        · rename_i b hb
          have hbr := he.at_ d
          rw [hb] at hbr
          simp only [Rel] at hbr
          have hy : yielded ops a.tmps j = some b := by
            unfold yielded
            rw [hdj']
            simp only [Option.bind_some]
            rw [Array.getD_eq_getD_getElem?] at hbr
            cases e : a.tmps[d]? with
            | none => rw [e] at hbr; simp [undef] at hbr
            | some u => rw [e] at hbr; simp at hbr; subst hbr; rfl
          have hwanted : Region.wanted o (yielded ops a.tmps) = (b == want) := by
            simp only [Region.wanted, hgd, hy]
            cases b <;> cases want <;> rfl
          rw [hwanted]
          have he₁ : RelEnv w S a.tmps ((d, .bool b) :: env) n := he.know d (by simp only [Rel]; exact hbr)
          rw [split_iff] at h
          cases b <;> cases want
          · exact rec_ _ he₁ (h.2 rfl)
          · exact ⟨fun _ _ => trivial, skip_ _ he₁ (h.2 rfl)⟩
          · exact ⟨fun _ _ => trivial, skip_ _ he₁ (h.1 rfl)⟩
          · exact rec_ _ he₁ (h.1 rfl)
        · rename_i hb
          have hbr := he.at_ d
          rw [hb] at hbr
          simp only [Rel] at hbr
          obtain ⟨cs, hcs, _⟩ := hbr
          have hy : yielded ops a.tmps j = none := by
            unfold yielded
            rw [hdj']
            simp only [Option.bind_some]
            rw [Array.getD_eq_getD_getElem?] at hcs
            cases e : a.tmps[d]? with
            | none => rfl
            | some u => rw [e] at hcs; simp at hcs; subst hcs; rfl
          have hwanted : Region.wanted o (yielded ops a.tmps) = false := by
            simp only [Region.wanted, hgd, hy]
            cases want <;> rfl
          rw [hwanted]
          exact ⟨fun _ _ => trivial, skip_ _ he h⟩
        · exact h.elim
      · exact h.elim

/-- How an exit of the abstract walk stands to one of the model's. -/
def ExRel (w : World) (S : St) : AExit → Exit → Prop
  | .normal, .normal => True
  | .exit i, .exit j => i = j
  | .ret, .ret => True
  | .panic x, .panic ch => ∃ v, ch = [{ v, recovered := false }] ∧ Rel w (rdOf S) x v
  | _, _ => False
/-- The mark that a range over a function leaves among the frame's deferred calls. -/
def markD (D : Nat) : Deferred := { target := .collected D, args := #[] }
/-- What has come among the deferred calls: marks alone. -/
def DefOk (nr : Bool) (w : World) (ds : List Deferred) (w' : World) (S' : St) (ds' : List Deferred) : Prop :=
  ∃ ms : List Nat, ds' = ms.map markD ++ ds ∧ ms.Nodup ∧ (nr = true → ms = []) ∧ ∀ D ∈ ms, w.heap.size ≤ D ∧ S' D = none ∧ w'.heap[D]? = some (.deferred (some []))
theorem DefOk.refl (nr : Bool) (w : World) (ds : List Deferred) (w' : World) (S' : St) : DefOk nr w ds w' S' ds := ⟨[], rfl, List.nodup_nil, fun _ => rfl, fun D hD => by cases hD⟩
theorem DefOk.of_eq {nr : Bool} {w : World} {ds : List Deferred} {w' : World} {S' : St} {ds' : List Deferred} (h : ds' = ds) : DefOk nr w ds w' S' ds' := h ▸ DefOk.refl _ _ _ _ _
theorem DefOk.adv {nr : Bool} {w : World} {ds : List Deferred} {w' w'' : World} {S' S'' : St} {ds' : List Deferred} (h : DefOk nr w ds w' S' ds') (ha : Adv w' S' w'' S'') : DefOk nr w ds w'' S'' ds' := by
  obtain ⟨ms, h1, h2, h0, h3⟩ := h
  refine ⟨ms, h1, h2, h0, fun D hD => ?_⟩
  obtain ⟨k1, k2, k3⟩ := h3 D hD
  obtain ⟨m1, m2⟩ := ha.old D (lt_of_block k3) k2
  exact ⟨k1, m1, m2.trans k3⟩
theorem DefOk.trans {nr : Bool} {w w' w'' : World} {S' S'' : St} {ds ds' ds'' : List Deferred} (h : DefOk nr w ds w' S' ds') (k : DefOk nr w' ds' w'' S'' ds'') (hw : w.heap.size ≤ w'.heap.size) (ha : Adv w' S' w'' S'') : DefOk nr w ds w'' S'' ds'' := by
  obtain ⟨ms', k1, k2, k0, k3⟩ := k
  obtain ⟨ms, h1, h2, h0, h3⟩ := h
  refine ⟨ms' ++ ms, by rw [k1, h1]; simp, ?_, fun hb => by rw [k0 hb, h0 hb]; rfl, fun D hD => ?_⟩
  · rw [List.nodup_append]
    refine ⟨k2, h2, fun a ha b hb hab => ?_⟩
    subst hab
    have := (k3 a ha).1
    have := lt_of_block (h3 a hb).2.2
    omega
  · rcases List.mem_append.1 hD with hD | hD
    · obtain ⟨m1, m2, m3⟩ := k3 D hD
      exact ⟨by omega, m2, m3⟩
    · obtain ⟨m1, m2, m3⟩ := h3 D hD
      obtain ⟨n1, n2⟩ := ha.old D (lt_of_block m3) m2
      exact ⟨m1, n1, n2.trans m3⟩
/-- No range over a function stands there. -/
def noRange : Code → Bool
  | .seq a b => noRange a && noRange b
  | .cond _ a b => noRange a && noRange b
  | .block _ c => noRange c
  | .loop c => noRange c
  | .rangeFunc .. => false
  | _ => true
def Post (nr : Bool) (C : Cx) (n : Nat) (ds : List Deferred) (w : World) (S : St) (Q : AExit → Env → St → Prop) (e : Exit) (a' : Act) (w' : World) : Prop :=
  ∃ ae env' S', ExRel w' S' ae e ∧ RelEnv w' S' a'.tmps env' n ∧ DefOk nr w ds w' S' a'.defers ∧ Good C w' S' ∧ Adv w S w' S' ∧ Q ae env' S'
theorem AV.le_sound {w : World} {rd} {x y : AV} {v : Value} (h : AV.le x y) (hx : Rel w rd x v) : Rel w rd y v := by
  unfold AV.le at h
  split at h
  · simp only [Rel]
  · obtain ⟨rfl, rfl⟩ := h
    simp only [Rel] at hx ⊢
    rcases hx with ⟨_, rfl, hz⟩ | ⟨b, off, cap, h1, h2, h3, _, h5⟩
    · exact .inl ⟨rfl, rfl, hz.any⟩
    · exact .inr ⟨b, off, cap, h1, h2, h3, trivial, h5⟩
  · obtain ⟨hsh, rfl, rfl⟩ := h
    simp only [Rel] at hx ⊢
    rcases hx with ⟨hh, _⟩ | ⟨b, off, cap, h1, h2, h3, _, h5⟩
    · rw [hsh] at hh; cases hh
    · exact .inr ⟨b, off, cap, h1, h2, h3, trivial, h5⟩
  · subst h
    simp only [Rel] at hx ⊢
    exact .inl ⟨rfl, trivial, .inl hx⟩
  · subst h
    simp only [Rel] at hx ⊢
    exact .inl ⟨rfl, trivial, .inl hx⟩
  · obtain ⟨hne, rfl, rfl, rfl⟩ := h
    simp only [Rel] at hx ⊢
    rcases hx with ⟨hh, _⟩ | ⟨b, off, cap, h1, h2, h3, h4, h5⟩
    · cases hh
    · exact .inr ⟨b, off, cap, h1, h2, h3, ⟨List.length_pos_iff.2 hne, h4⟩, h5⟩
  · subst h; exact hx
mutual
theorem AV.leS_sound {w : World} {S S' : St} (hi : Inv w S) (hle : St.le S' S) : ∀ (x y : AV) (v : Value), AV.leS S S' x y → Rel w (rdOf S) x v → Rel w (rdOf S') y v
  | .sl sh k es, y, v, h, hx => by
    have hx' := Rel.mono (Adv.shrink hle) _ _ hx
    unfold AV.leS at h
    split at h
    · obtain ⟨rfl, rfl⟩ := h
      simp only [Rel] at hx' ⊢
      rcases hx' with ⟨_, rfl, hz⟩ | ⟨b, off, cap, h1, h2, h3, _, h5⟩
      · exact .inl ⟨rfl, rfl, hz.any⟩
      · exact .inr ⟨b, off, cap, h1, h2, h3, trivial, h5⟩
    · obtain ⟨hsh, rfl, rfl⟩ := h
      simp only [Rel] at hx' ⊢
      rcases hx' with ⟨hh, _⟩ | ⟨b, off, cap, h1, h2, h3, _, h5⟩
      · rw [hsh] at hh; cases hh
      · exact .inr ⟨b, off, cap, h1, h2, h3, trivial, h5⟩
    · simp only [Rel]
    · subst h; exact hx'
  | .nils, y, v, h, hx => by
    unfold AV.leS at h
    split at h
    · subst h
      simp only [Rel] at hx ⊢
      exact .inl ⟨rfl, trivial, .inl hx⟩
    · simp only [Rel]
    · subst h; simpa only [Rel] using hx
  | .ref b off, y, v, h, hx => by
    unfold AV.leS at h
    split at h
    · obtain ⟨hn, e, cells, hS, rfl⟩ := h
      simp only [Rel] at hx ⊢
      refine ⟨b, off, hx, ?_⟩
      obtain ⟨cs, h1, h2, h3, h4⟩ := obj_cells hi hS
      have hall := RelAt.of_cells (b := b) (off := 0) (RelL.mono (Adv.shrink hle) _ _ h2) h4 h3 (fun i hi' => by simp only [rdOf, hn])
      simpa using RelAt.drop hall off
    · simp only [Rel]
    · subst h; simpa only [Rel] using hx
  | .ifc t x, y, v, h, hx => by
    unfold AV.leS at h
    split at h
    · obtain ⟨rfl, h⟩ := h
      simp only [Rel] at hx ⊢
      obtain ⟨u, rfl, hu⟩ := hx
      exact ⟨u, rfl, AV.leS_sound hi hle x _ u h hu⟩
    · simp only [Rel]
    · exact h.elim
  | .tu xs, y, v, h, hx => by
    unfold AV.leS at h
    split at h
    · simp only [Rel] at hx ⊢
      obtain ⟨cs, rfl, hu⟩ := hx
      exact ⟨cs, rfl, AV.leSL_sound hi hle xs _ _ h hu⟩
    · simp only [Rel]
    · exact h.elim
  | .ag xs, y, v, h, hx => by
    unfold AV.leS at h
    split at h
    · simp only [Rel] at hx ⊢
      obtain ⟨cs, rfl, hu, h1⟩ := hx
      exact ⟨cs, rfl, AV.leSL_sound hi hle xs _ _ h hu, h1⟩
    · simp only [Rel]
    · exact h.elim
  | .int k n, y, v, h, hx => by
    have hx' := Rel.mono (Adv.shrink hle) _ _ hx
    unfold AV.leS at h; split at h; (· simp only [Rel]); subst h; exact hx'
  | .bool k, y, v, h, hx => by
    have hx' := Rel.mono (Adv.shrink hle) _ _ hx
    unfold AV.leS at h; split at h; (· simp only [Rel]); subst h; exact hx'
  | .str k, y, v, h, hx => by
    have hx' := Rel.mono (Adv.shrink hle) _ _ hx
    unfold AV.leS at h; split at h; (· simp only [Rel]); subst h; exact hx'
  | .nilp, y, v, h, hx => by
    have hx' := Rel.mono (Adv.shrink hle) _ _ hx
    unfold AV.leS at h; split at h; (· simp only [Rel]); subst h; exact hx'
  | .imm xs, y, v, h, hx => by
    have hx' := Rel.mono (Adv.shrink hle) _ _ hx
    unfold AV.leS at h; split at h; (· simp only [Rel]); subst h; exact hx'
  | .arr _ _ _ _, y, v, h, hx => by
    have hx' := Rel.mono (Adv.shrink hle) _ _ hx
    unfold AV.leS at h; split at h; (· simp only [Rel]); subst h; exact hx'
  | .nilf, y, v, h, hx => by
    have hx' := Rel.mono (Adv.shrink hle) _ _ hx
    unfold AV.leS at h; split at h; (· simp only [Rel]); subst h; exact hx'
  | .fn _ _ _, y, v, h, hx => by
    have hx' := Rel.mono (Adv.shrink hle) _ _ hx
    unfold AV.leS at h; split at h; (· simp only [Rel]); subst h; exact hx'
  | .nili, y, v, h, hx => by
    have hx' := Rel.mono (Adv.shrink hle) _ _ hx
    unfold AV.leS at h; split at h; (· simp only [Rel]); subst h; exact hx'
  | .nilm, y, v, h, hx => by
    have hx' := Rel.mono (Adv.shrink hle) _ _ hx
    unfold AV.leS at h; split at h; (· simp only [Rel]); subst h; exact hx'
  | .mp _, y, v, h, hx => by
    have hx' := Rel.mono (Adv.shrink hle) _ _ hx
    unfold AV.leS at h; split at h; (· simp only [Rel]); subst h; exact hx'
  | .raw _, y, v, h, hx => by
    have hx' := Rel.mono (Adv.shrink hle) _ _ hx
    unfold AV.leS at h; split at h; (· simp only [Rel]); subst h; exact hx'
  | .top, y, v, h, hx => by
    have hx' := Rel.mono (Adv.shrink hle) _ _ hx
    unfold AV.leS at h; split at h; (· simp only [Rel]); subst h; exact hx'
theorem AV.leSL_sound {w : World} {S S' : St} (hi : Inv w S) (hle : St.le S' S) : ∀ (xs ys : List AV) (vs : List Value), AV.leSL S S' xs ys → RelL w (rdOf S) xs vs → RelL w (rdOf S') ys vs
  | [], ys, vs, h, hx => by
    simp only [AV.leSL] at h; subst h
    simpa only [RelL] using hx
  | x :: xs, ys, vs, h, hx => by
    unfold AV.leSL at h
    split at h
    · exact h.elim
    · simp only [RelL] at hx ⊢
      obtain ⟨u, us, rfl, h1, h2⟩ := hx
      exact ⟨u, us, rfl, AV.leS_sound hi hle x _ u h.1 h1, AV.leSL_sound hi hle xs _ us h.2 h2⟩
end
/-! ### Less said -/
theorem leL_sound {w : World} {rd} : ∀ {xs ys : List AV} {vs : List Value}, leL xs ys → RelL w rd xs vs → RelL w rd ys vs
  | [], [], vs, _, h => h
  | x :: xs, y :: ys, vs, hl, h => by
    simp only [RelL] at h ⊢
    obtain ⟨u, us, rfl, h1, h2⟩ := h
    exact ⟨u, us, rfl, AV.le_sound hl.1 h1, leL_sound hl.2 h2⟩
  | [], _ :: _, vs, hl, h => hl.elim
  | _ :: _, [], vs, hl, h => hl.elim
theorem St.leW_upd {S : St} {b : Nat} {e : TypeId} {cs cs' : List AV} (h : S b = some (.obj e cs)) (hl : leL cs cs') : St.leW (S.upd b (.obj e cs')) S := fun x => by
  by_cases hx : x = b
  · subst hx; exact .inr ⟨e, cs, cs', h, St.upd_same _ _ _, hl⟩
  · exact .inl (St.upd_ne _ _ _ _ hx)
theorem St.leW_rd {S₀ S : St} (h : St.leW S₀ S) : rdOf S₀ = rdOf S := by
  funext b off
  rcases h b with h | ⟨e, cs, cs', h1, h2, _⟩
  · simp only [rdOf, h]
  · simp only [rdOf, h1, h2]
theorem St.leW_none {S₀ S : St} (h : St.leW S₀ S) {b : Nat} (hb : S b = none) : S₀ b = none := by
  rcases h b with h | ⟨e, cs, cs', h1, h2, _⟩
  · rw [h]; exact hb
  · rw [h1] at hb; cases hb
theorem Good.weakS {w : World} {S₀ S : St} (hg : Good C w S) (h : St.leW S₀ S) : Good C w S₀ := by
  refine ⟨fun b o ho => ?_, fun g xs hx => ?_⟩
  · rw [St.leW_rd h]
    rcases h b with hb | ⟨e, cs, cs', h1, h2, hl⟩
    · exact hg.1 b o (by rw [← hb]; exact ho)
    · rw [h2] at ho
      cases ho
      obtain ⟨vs, k1, k2, k3⟩ := hg.1 b _ h1
      exact ⟨vs, k1, leL_sound hl k2, k3⟩
  · obtain ⟨k1, k2, k3, k4⟩ := hg.2 g xs hx
    exact ⟨St.leW_none h k1, k2, by rw [St.leW_rd h]; exact k3, k4⟩
theorem Adv.weakS {w w' : World} {S₀ S S' : St} (h : St.leW S₀ S) (ha : Adv w S₀ w' S') : Adv w S w' S' :=
  ⟨ha.os, ha.tape, ha.output, ha.size, fun b hb hn => ha.old b hb (St.leW_none h hn), fun b off hb hr => ha.stay b off hb (by rw [St.leW_rd h]; exact hr), ha.shape⟩
theorem St.leW_refl (S : St) : St.leW S S := fun _ => .inl rfl
theorem RelEnv.weakS {w : World} {S₀ S : St} {tmps : Array Value} {env : Env} {n : Nat} (he : RelEnv w S tmps env n) (h : St.leW S₀ S) : RelEnv w S₀ tmps env n :=
  ⟨he.size, fun t => by rw [St.leW_rd h]; exact he.at_ t⟩
theorem Env.le_sound {w : World} {S : St} {tmps : Array Value} {n : Nat} {env : Env} (he : RelEnv w S tmps env n) : ∀ {env' : Env}, Env.le env env' → RelEnv w S tmps env' n
  | [], _ => ⟨he.size, fun t => by simp only [look, Rel]⟩
  | (t, x) :: r, h => (Env.le_sound he h.2).know t (AV.le_sound h.1 (he.at_ t))
theorem RelEnv.put' {w : World} {S : St} {tmps : Array Value} {env : Env} {n : Nat} (h : RelEnv w S tmps env n) (d : Tmp) (hd : d < n) {x : AV} {v : Value} (hx : Rel w (rdOf S) x v) :
    RelEnv w S (tmps.setIfInBounds d v) ((d, x) :: env) n :=
  RelEnv.put (a := ⟨tmps, []⟩) h (some d) (fun t ht => by cases ht; exact hd) hx
theorem putPs_sound {w : World} {S : St} {n : Nat} : ∀ {tmps : Array Value} {env : Env}, RelEnv w S tmps env n → ∀ (ps : List Tmp) (xs : List AV) (vs : List Value), (∀ p ∈ ps, p < n) → xs.length = ps.length → RelL w (rdOf S) xs vs →
    RelEnv w S ((ps.zip vs).foldl (fun tmps (t, a) => tmps.setIfInBounds t a) tmps) (putPs ps xs env) n
  | tmps, env, he, [], [], vs, hp, hl, hr => by simpa [putPs] using he
  | tmps, env, he, p :: ps, x :: xs, vs, hp, hl, hr => by
    simp only [RelL] at hr
    obtain ⟨u, us, rfl, h1, h2⟩ := hr
    simp only [List.zip_cons_cons, List.foldl_cons, putPs]
    exact putPs_sound (he.put' p (hp p (by simp)) h1) ps xs us (fun q hq => hp q (by simp [hq])) (by simpa using hl) h2
  | _, _, _, [], _ :: _, _, _, hl, _ => by simp at hl
  | _, _, _, _ :: _, [], _, _, hl, _ => by simp at hl
theorem Adv.setLp {w : World} {S : St} {b : Nat} {R : LpSt → Loop} {st : LpSt} (hS : S b = some (.lp R st)) (hb : w.heap[b]? = some (.loop (R st))) (st' : LpSt) : Adv w S (w.putObj b (.loop (R st'))) (S.upd b (.lp R st')) := by
  have hother : ∀ x, x ≠ b → (w.putObj b (.loop (R st'))).heap[x]? = w.heap[x]? := fun x hx => World.putObj_heap_other hx
  refine ⟨rfl, rfl, rfl, by simp, fun x hx hn => ?_, fun x off hx hr => ?_, fun x e' n hx => ?_⟩
  · have hne : x ≠ b := St.ne_of' hn hS
    exact ⟨by rw [St.upd_ne _ _ _ _ hne]; exact hn, hother x hne⟩
  · have hne : x ≠ b := by rintro rfl; simp only [rdOf, hS] at hr
    refine ⟨by simp only [rdOf, St.upd_ne _ _ _ _ hne]; exact hr, cell_of_block (hother x hne) off⟩
  · by_cases hne : x = b
    · subst hne
      simp only [World.shape?, hb] at hx
      cases hx
    · rw [shape_of_block (hother x hne)]; exact hx
theorem Good.setLp {w : World} {S : St} {b : Nat} {R : LpSt → Loop} {st : LpSt} (hg : Good C w S) (hS : S b = some (.lp R st)) (st' : LpSt) : Good C (w.putObj b (.loop (R st'))) (S.upd b (.lp R st')) := by
  have hb : w.heap[b]? = some (.loop (R st)) := hg.1 b _ hS
  have hadv := Adv.setLp hS hb st'
  refine hg.mk (fun x o ho => ?_) hadv
  by_cases hx : x = b
  · subst hx
    rw [St.upd_same] at ho
    cases ho
    exact World.putObj_heap_same (lt_of_block hb)
  · rw [St.upd_ne _ _ _ _ hx] at ho
    exact OwnOk.mono hadv (World.putObj_heap_other hx) (hg.1 x o ho)
theorem Adv.endLp {w : World} {S : St} {b : Nat} {R : LpSt → Loop} {st : LpSt} (hS : S b = some (.lp R st)) (hb : w.heap[b]? = some (.loop (R st))) (x : Loop) : Adv w S (w.putObj b (.loop x)) (S.del b) := by
  have hother : ∀ y, y ≠ b → (w.putObj b (.loop x)).heap[y]? = w.heap[y]? := fun y hy => World.putObj_heap_other hy
  refine ⟨rfl, rfl, rfl, by simp, fun y hy hn => ?_, fun y off hy hr => ?_, fun y e' n hy => ?_⟩
  · have hne : y ≠ b := St.ne_of' hn hS
    exact ⟨by rw [St.del_ne _ _ _ hne]; exact hn, hother y hne⟩
  · have hne : y ≠ b := by rintro rfl; simp only [rdOf, hS] at hr
    refine ⟨by simp only [rdOf, St.del_ne _ _ _ hne]; exact hr, cell_of_block (hother y hne) off⟩
  · by_cases hne : y = b
    · subst hne
      simp only [World.shape?, hb] at hy
      cases hy
    · rw [shape_of_block (hother y hne)]; exact hy
theorem Good.endLp {w : World} {S : St} {b : Nat} {R : LpSt → Loop} {st : LpSt} (hg : Good C w S) (hS : S b = some (.lp R st)) (x : Loop) : Good C (w.putObj b (.loop x)) (S.del b) := by
  have hb : w.heap[b]? = some (.loop (R st)) := hg.1 b _ hS
  have hadv := Adv.endLp hS hb x
  refine hg.mk (fun y o ho => ?_) hadv
  by_cases hx : y = b
  · subst hx
    rw [St.del_same] at ho
    cases ho
  · rw [St.del_ne _ _ _ hx] at ho
    exact OwnOk.mono hadv (World.putObj_heap_other hx) (hg.1 y o ho)
theorem awp_sound (hm : P.follows .mixedOrders = true) {n : Nat} : ∀ (c : Code), dstOk n c = true → ∀ {nr : Bool}, (nr = true → noRange c = true) → ∀ {C : Cx} {ro : Option Nat} {m : Nat}, TyOk P C → (C.inR = false → ro = none) → ∀ {a : Act} {w : World} {S : St} {env : Env}, YOk P C w S → Good C w S → RelEnv w S a.tmps env n → ∀ {Q : AExit → Env → St → Prop}, awp P C c env S Q →
    c.wpIn (Fr ro) m P (Post nr C n a.defers w S Q) a w
  | .skip, hd, nr, hnr, C, ro, m, hT, hro, a, w, S, env, hY, hg, he, Q, h => wpIn_skip ⟨.normal, env, S, trivial, he, DefOk.refl _ _ _ _ _, hg, Adv.refl w S, h⟩
  | .label l, hd, nr, hnr, C, ro, m, hT, hro, a, w, S, env, hY, hg, he, Q, h => wpIn_label ⟨.normal, env, S, trivial, he, DefOk.refl _ _ _ _ _, hg, Adv.refl w S, h⟩
  | .ret, hd, nr, hnr, C, ro, m, hT, hro, a, w, S, env, hY, hg, he, Q, h => wpIn_ret ⟨.ret, env, S, trivial, he, DefOk.refl _ _ _ _ _, hg, Adv.refl w S, h⟩
  | .exit i, hd, nr, hnr, C, ro, m, hT, hro, a, w, S, env, hY, hg, he, Q, h => wpIn_exit ⟨.exit i, env, S, rfl, he, DefOk.refl _ _ _ _ _, hg, Adv.refl w S, h⟩
  | .seq x y, hd, nr, hnr, C, ro, m, hT, hro, a, w, S, env, hY, hg, he, Q, h => by
    simp only [dstOk, Bool.and_eq_true] at hd
    refine wpIn_seq (wpIn_mono (awp_sound hm x hd.1 (fun hb => by have := hnr hb; simp only [noRange, Bool.and_eq_true] at this; exact this.1) hT hro hY hg he h) ?_)
    rintro e a' w' ⟨ae, env', S', h1, h2, h3, h4, h5, h6⟩
    cases ae with
    | normal =>
      cases e <;> simp only [ExRel] at h1
      refine wpIn_mono (awp_sound hm y hd.2 (fun hb => by have := hnr hb; simp only [noRange, Bool.and_eq_true] at this; exact this.2) hT hro (hY.mono h5) h4 h2 h6) ?_
      rintro e a'' w'' ⟨ae, env'', S'', k1, k2, k3, k4, k5, k6⟩
      exact ⟨ae, env'', S'', k1, k2, h3.trans k3 h5.size k5, k4, h5.trans k5, k6⟩
    | exit i => cases e <;> simp only [ExRel] at h1; exact ⟨.exit i, env', S', h1, h2, h3, h4, h5, h6⟩
    | ret => cases e <;> simp only [ExRel] at h1; exact ⟨.ret, env', S', trivial, h2, h3, h4, h5, h6⟩
    | panic x => cases e <;> simp only [ExRel] at h1; exact ⟨.panic x, env', S', h1, h2, h3, h4, h5, h6⟩
  | .region id ops draw, hd, nr, hnr, C, ro, m, hT, hro, a, w, S, env, hY, hg, he, Q, h => by
    cases draw with
    | true =>
      obtain ⟨qc, pl, M, hok, hpl, hM⟩ := h
      refine draw_sound hT hm (fun o ho d hod => ?_) hY hg he hok hpl (fun env' a' w' S' k1 k2 k3 k4 k5 => ?_) (fun x v a' w' S' k1 k2 k0 k3 k4 k5 => ⟨.panic x, [], S', ⟨v, rfl, k2⟩, ⟨k0, fun t => by simp only [look, Rel]⟩, DefOk.of_eq k3, k4, k5, k1⟩)
      · simp only [dstOk, List.all_eq_true] at hd
        have := hd o (by simpa using ho)
        simp only [hod] at this
        exact Nat.le_of_ble_eq_true this
      · obtain ⟨F, f1, f2⟩ := hM env' S' k1
        rcases f1 with rfl | f1
        · exact ⟨.normal, F, S', trivial, k2, DefOk.of_eq k3, k4, k5, f2⟩
        · exact ⟨.normal, F, S', trivial, Env.le_sound k2 f1, DefOk.of_eq k3, k4, k5, f2⟩
    | false =>
      refine wpIn_region_list (aOps_sound hT ops ops.toList (fun o ho d hod => ?_) hY hg he h (fun env' a' w' S' k1 k2 k3 k4 k5 => ⟨.normal, env', S', trivial, k2, DefOk.of_eq k3, k4, k5, k1⟩) (fun x v a' w' S' k1 k2 k0 k3 k4 k5 => ⟨.panic x, [], S', ⟨v, rfl, k2⟩, ⟨k0, fun t => by simp only [look, Rel]⟩, DefOk.of_eq k3, k4, k5, k1⟩))
      · simp only [dstOk, List.all_eq_true] at hd
        have := hd o ho
        simp only [hod] at this
        exact Nat.le_of_ble_eq_true this
  | .cond (.tmp t) x y, hd, nr, hnr, C, ro, m, hT, hro, a, w, S, env, hY, hg, he, Q, h => by
    simp only [dstOk, Bool.and_eq_true] at hd
    unfold awp at h
    split at h
    · rename_i b hb
      have hbr := he.at_ t
      rw [hb] at hbr
      simp only [Rel] at hbr
      rw [split_iff] at h
      have hev : a.eval (.tmp t) = .bool b := hbr
      refine wpIn_cond_split hev (fun hb' => ?_) (fun hb' => ?_)
      · subst hb'
        exact awp_sound hm x hd.1 (fun hb => by have := hnr hb; simp only [noRange, Bool.and_eq_true] at this; exact this.1) hT hro hY hg (he.know t (by simp only [Rel]; exact hbr)) (h.1 rfl)
      · subst hb'
        exact awp_sound hm y hd.2 (fun hb => by have := hnr hb; simp only [noRange, Bool.and_eq_true] at this; exact this.2) hT hro hY hg (he.know t (by simp only [Rel]; exact hbr)) (h.2 rfl)
    · exact h.elim
  | .cond (.const v) x y, hd, nr, hnr, C, ro, m, hT, hro, a, w, S, env, hY, hg, he, Q, h => h.elim
  | .cond (.global v) x y, hd, nr, hnr, C, ro, m, hT, hro, a, w, S, env, hY, hg, he, Q, h => h.elim
  | .cond (.func v) x y, hd, nr, hnr, C, ro, m, hT, hro, a, w, S, env, hY, hg, he, Q, h => h.elim
  | .block id c, hd, nr, hnr, C, ro, m, hT, hro, a, w, S, env, hY, hg, he, Q, h => by
    refine wpIn_block (wpIn_mono (awp_sound hm c hd hnr hT hro hY hg he h) ?_)
    rintro e a' w' ⟨ae, env', S', h1, h2, h3, h4, h5, h6⟩
    cases ae with
    | normal => cases e <;> simp only [ExRel] at h1; exact ⟨.normal, env', S', trivial, h2, h3, h4, h5, h6⟩
    | exit i =>
      cases e <;> simp only [ExRel] at h1
      subst h1
      simp only [cond_eq_ite] at h6
      simp only [Exit.inBlock]
      by_cases hi : i = id
      · subst hi
        rw [if_pos rfl]
        rw [if_pos (Nat.beq_refl i)] at h6
        exact ⟨.normal, env', S', trivial, h2, h3, h4, h5, h6⟩
      · rw [if_neg hi]
        rw [if_neg (fun hh => hi (Nat.eq_of_beq_eq_true hh))] at h6
        exact ⟨.exit i, env', S', rfl, h2, h3, h4, h5, h6⟩
    | ret => cases e <;> simp only [ExRel] at h1; exact ⟨.ret, env', S', trivial, h2, h3, h4, h5, h6⟩
    | panic x => cases e <;> simp only [ExRel] at h1; exact ⟨.panic x, env', S', h1, h2, h3, h4, h5, h6⟩
  | .loop c, hd, nr, hnr, C, ro, m, hT, hro, a, w, S, env, hY, hg, he, Q, h => by
    obtain ⟨L, ⟨i₀, hle, S₀, hW, hG⟩, hround⟩ := h
    have hadv0 : Adv w S w S₀ := Adv.weakS hW (Adv.refl w S₀)
    refine Go.wpIn_loop_ghost (fun m a' w' => ∃ i S', L.μ i = m ∧ L.G i S' ∧ RelEnv w' S' a'.tmps (L.F i) n ∧ DefOk nr w a.defers w' S' a'.defers ∧ Good C w' S' ∧ Adv w S w' S') (L.μ i₀) ⟨i₀, S₀, rfl, hG, Env.le_sound (he.weakS hW) hle, DefOk.refl _ _ _ _ _, hg.weakS hW, hadv0⟩ ?_
    rintro m a' w' ⟨i, S', rfl, hG', he', hde, hg', hadv⟩
    refine wpIn_mono (awp_sound hm c hd hnr hT hro (hY.mono hadv) hg' he' (hround i S' hG')) ?_
    rintro e a'' w'' ⟨ae, env', S'', h1, h2, h3, h4, h5, h6⟩
    cases ae with
    | normal =>
      cases e <;> simp only [ExRel] at h1
      obtain ⟨j, hle', ⟨S₃, hW', hG''⟩, hlt⟩ := h6
      exact ⟨L.μ j, hlt, j, S₃, rfl, hG'', Env.le_sound (h2.weakS hW') hle', (hde.trans h3 hadv.size h5).adv (Adv.weakS hW' (Adv.refl _ _)), h4.weakS hW', hadv.trans (h5.trans (Adv.weakS hW' (Adv.refl _ _)))⟩
    | exit i => cases e <;> simp only [ExRel] at h1; exact ⟨.exit i, env', S'', h1, h2, hde.trans h3 hadv.size h5, h4, hadv.trans h5, h6⟩
    | ret => cases e <;> simp only [ExRel] at h1; exact ⟨.ret, env', S'', trivial, h2, hde.trans h3 hadv.size h5, h4, hadv.trans h5, h6⟩
    | panic x => cases e <;> simp only [ExRel] at h1; exact ⟨.panic x, env', S'', h1, h2, hde.trans h3 hadv.size h5, h4, hadv.trans h5, h6⟩
  | .scope c, hd, nr, hnr, C, ro, m, hT, hro, a, w, S, env, hY, hg, he, Q, h => h.elim
  | .rangeFunc g ps assign body, hd, nr, hnr, C, ro, m, hT, hro, a, w, S, env, hY, hg, he, Q, h => by
    simp only [dstOk, Bool.and_eq_true] at hd
    obtain ⟨hdp, hda, hdb⟩ := hd
    unfold awp at h
    split at h
    · rename_i gf lb hR hgv
      have hr0 := hro hR
      subst hr0
      rw [forceL_eq] at h
      have hgr := ev_sound hg he g
      rw [hgv] at hgr
      simp only [Rel] at hgr
      obtain ⟨b1, b2, e1, r1, r2⟩ := hgr
      simp only [RelL] at r1
      have hb1 : b1 = #[] := by simpa using r1
      subst hb1
      refine wpIn_rangeFunc ?_
      intro fn hfn
      obtain ⟨R, hRd⟩ : ∃ R : LpSt → Loop, R = fun st => match st with
        | .ready => { state := .ready, pending := none, fn, tmps := a.tmps, params := ps, assign, body, defers := w.heap.size }
        | .busy => { state := .busy, pending := none, fn, tmps := a.tmps, params := ps, assign, body, defers := w.heap.size }
        | .done c => { state := .done, pending := some c, fn, tmps := a.tmps, params := ps, assign, body, defers := w.heap.size } := ⟨_, rfl⟩
      have hSD := hg.1.fresh
      have hg0 : Good C (w.alloc (.deferred (some []))) S := hg.mk (hg.1.alloc _) (Adv.alloc _ hSD)
      have hSl := hg0.1.fresh
      have hadv1 : Adv w S ((w.alloc (.deferred (some []))).alloc (.loop (R .ready))) (S.upd (w.alloc (.deferred (some []))).heap.size (.lp R .ready)) := (Adv.alloc _ hSD).trans (Adv.allocOwn _ _ hSl)
      have hg1 : Good C ((w.alloc (.deferred (some []))).alloc (.loop (R .ready))) (S.upd (w.alloc (.deferred (some []))).heap.size (.lp R .ready)) := hg0.mk (hg0.1.allocOwn _ _ (heap_alloc_new _ _)) (Adv.allocOwn _ _ hSl)
      have hD1 : ((w.alloc (.deferred (some []))).alloc (.loop (R .ready))).heap[w.heap.size]? = some (.deferred (some [])) := (heap_alloc_lt _ _ (by simp)).trans (heap_alloc_new w _)
      have ht := h (w.alloc (.deferred (some []))).heap.size R hSl
      rw [World.size_alloc] at ht hSl hg1 hadv1
      have hSD1 : (S.upd (w.heap.size + 1) (.lp R .ready)) w.heap.size = none := by rw [St.upd_ne _ _ _ _ (by omega)]; exact hSD
      refine ⟨w.heap.size + 1, [markD w.heap.size], (w.alloc (.deferred (some []))).alloc (.loop (R .ready)), { target := .fn (.func gf) b2, args := #[Value.func (.yield (w.heap.size + 1)) #[] #[]] }, (w.alloc (.deferred (some []))).alloc (.loop (R .ready)), gf,
        #[Value.func (.yield (w.heap.size + 1)) #[] #[]] ++ b2, (w.alloc (.deferred (some []))).alloc (.loop (R .ready)), ?_, ?_, fun _ _ => trivial, ?_, fun hh => by simp [Fr, Fence.wide] at hh, ?_⟩
      · rw [hRd]; exact run_enterLoop_outer _ _ _ _ _
      · simp only [resolve, e1]
        simp [go_sem]
      · simp only [invoke]
        exact ht.enter _ _
      · have hrel1 : RelL ((w.alloc (.deferred (some []))).alloc (.loop (R .ready))) (rdOf (S.upd (w.heap.size + 1) (.lp R .ready))) (.fn (.yield (w.heap.size + 1)) [] [] :: lb) (#[Value.func (.yield (w.heap.size + 1)) #[] #[]] ++ b2).toList := by
          simp only [Array.toList_append, List.singleton_append, RelL]
          exact ⟨_, _, rfl, by simp only [Rel]; exact ⟨#[], #[], rfl, by simp [RelL], by simp [RelL]⟩, RelL.mono hadv1 _ _ r2⟩
        refine CallsIn.mono (callsIn_wide.2 (ht.out _ _ ?_ hg1 hrel1)) ?_
        · -- A ROUND
          intro y hy xs S2 K hspec w2 vs m2 hadv2 hg2 hrel2
          simp only [Cx.withY, Option.some.injEq] at hy
          subst hy
          obtain ⟨⟨hS2, hlen⟩, haw⟩ := hspec
          have hg2 : Good C w2 S2 := hg2
          have hL2 : w2.heap[w.heap.size + 1]? = some (.loop (R .ready)) := hg2.1 _ _ hS2
          have hsz : vs.size = ps.size := by have := RelL.length hrel2; simp at this; omega
          have hyr := run_yield (P := P) (args := vs) hL2 (by rw [hRd]; exact hsz)
          have hadv02 := hadv1.trans hadv2
          have he2 : RelEnv w2 S2 ((ps.zip vs).foldl (fun tmps (t, a) => tmps.setIfInBounds t a) a.tmps) (putPs ps.toList xs env) n := by
            have := putPs_sound (he.mono hadv02) ps.toList xs vs.toList (fun p hp => by simpa using List.all_eq_true.1 hdp p hp) (by simpa using hlen) hrel2
            rw [← Array.foldl_toList, Array.toList_zip]
            exact this
          rw [hRd] at hyr
          refine ⟨fn, _, assign, body, hyr, roundIn_of_wpIn (F := Fence.wide) trivial ?_⟩
          refine wpIn_mono (awp_sound hm assign hda (nr := false) (fun hb => by cases hb) (C := C.round) (ro := some (w.heap.size + 1)) hT (fun hh => by simp [Cx.round] at hh) (a := { tmps := _, defers := [] }) (fun y hy => (hY.mono hadv02) y hy) hg2 he2 haw) ?_
          rintro e a1 w3 ⟨ae, env1, S3, x1, x2, x3, x4, x5, x6⟩
          cases ae with
          | normal =>
            cases e <;> simp only [ExRel] at x1
            obtain ⟨hS3, x6⟩ := x6
            have x4 : Good C w3 S3 := x4
            have hL3 : w3.heap[w.heap.size + 1]? = some (.loop (R .ready)) := x4.1 _ _ hS3
            have hbr := run_beginRound (P := P) hL3 (by rw [hRd])
            have hb2 : ({ R .ready with state := .busy } : Loop) = R .busy := by rw [hRd]
            rw [hb2] at hbr
            have ha4 := Adv.setLp hS3 hL3 .busy
            have hg4 := x4.setLp hS3 .busy
            refine ⟨_, hbr, ?_⟩
            refine wpIn_mono (awp_sound hm body hdb (nr := false) (fun hb => by cases hb) (C := C.round) (ro := some (w.heap.size + 1)) hT (fun hh => by simp [Cx.round] at hh) (fun y hy => (hY.mono ((hadv02.trans x5).trans ha4)) y hy) hg4 (x2.mono ha4) x6) ?_
            rintro e a5 w5 ⟨ae, env5, S5, z1, z2, z3, z4, z5, hS5, z6⟩
            have z4 : Good C w5 S5 := z4
            have hL5 : w5.heap[w.heap.size + 1]? = some (.loop (R .busy)) := z4.1 _ _ hS5
            have fin : ∀ (jump : Option Code) (st : LpSt), ({ R .busy with state := if jump.isNone then .ready else .done, pending := jump } : Loop) = R st → K jump.isNone (S5.upd (w.heap.size + 1) (.lp R st)) →
                ∃ v w', (Instr.endRound (w.heap.size + 1) jump).run P w5 = .ok v w' ∧ ∃ b S', (Ending.returned v) = .returned (.bool b) ∧ Good C w' S' ∧ Adv w2 S2 w' S' ∧ K b S' := fun jump st hst hk => by
              have := run_endRound (P := P) jump hL5
              rw [hst] at this
              exact ⟨_, _, this, _, _, rfl, z4.setLp hS5 st, (x5.trans ha4).trans (z5.trans (Adv.setLp hS5 hL5 st)), hk⟩
            cases ae with
            | normal => cases e <;> simp only [ExRel] at z1; exact fin none .ready (by rw [hRd]; rfl) z6
            | ret => cases e <;> simp only [ExRel] at z1; exact fin (some .ret) (.done .ret) (by rw [hRd]; rfl) z6
            | exit i => cases e <;> simp only [ExRel] at z1; subst z1; exact fin (some (.exit i)) (.done (.exit i)) (by rw [hRd]; rfl) z6
            | panic x => exact z6.elim
          | exit i => exact x6.elim
          | ret => exact x6.elim
          | panic x => exact x6.elim
        · -- THE END
          rintro e w3 ⟨o, S3, ho, hg3, hadv3, ⟨x, rfl⟩, st, hS3, hq⟩
          have hg3 : Good C w3 S3 := hg3
          cases e with
          | returned v =>
            have hL3 : w3.heap[w.heap.size + 1]? = some (.loop (R st)) := hg3.1 _ _ hS3
            have ha4 : ∀ x, Adv w3 S3 (w3.putObj (w.heap.size + 1) (.loop x)) (S3.del (w.heap.size + 1)) := fun x => Adv.endLp hS3 hL3 x
            have hg4 : ∀ x, Good C (w3.putObj (w.heap.size + 1) (.loop x)) (S3.del (w.heap.size + 1)) := fun x => hg3.endLp hS3 x
            have hadv4 : ∀ x, Adv w S (w3.putObj (w.heap.size + 1) (.loop x)) (S3.del (w.heap.size + 1)) := fun x => (hadv1.trans hadv3).trans (ha4 x)
            have hdef : ∀ x, DefOk nr w a.defers (w3.putObj (w.heap.size + 1) (.loop x)) (S3.del (w.heap.size + 1)) ([markD w.heap.size] ++ a.defers) := fun x => by
              obtain ⟨k1, k2⟩ := (hadv3.trans (ha4 x)).old _ (lt_of_block hD1) hSD1
              exact ⟨[w.heap.size], rfl, by simp, fun hb => by have := hnr hb; simp [noRange] at this, fun D hD => by simp at hD; subst hD; exact ⟨Nat.le_refl _, k1, k2.trans hD1⟩⟩
            cases st with
            | ready =>
              have := run_endLoop (P := P) hL3 (by rw [hRd]; simp)
              rw [show (R .ready).pending = none by rw [hRd]] at this
              exact ⟨_, _, this, .normal, env, _, trivial, he.mono (hadv4 _), hdef _, hg4 _, hadv4 _, hq⟩
            | busy => exact hq.elim
            | done c =>
              have := run_endLoop (P := P) hL3 (by rw [hRd]; simp)
              rw [show (R (.done c)).pending = some c by rw [hRd]] at this
              refine ⟨_, _, this, ?_⟩
              dsimp only
              cases c <;> dsimp only at hq <;> first | exact hq.elim | skip
              · exact wpIn_exit ⟨.exit _, env, _, rfl, he.mono (hadv4 _), hdef _, hg4 _, hadv4 _, hq⟩
              · exact wpIn_ret ⟨.ret, env, _, trivial, he.mono (hadv4 _), hdef _, hg4 _, hadv4 _, hq⟩
          | panicked ch => exact ho.elim
          | outgrown => exact ho.elim
    · exact h.elim
  | .goto _, hd, nr, hnr, C, ro, m, hT, hro, a, w, S, env, hY, hg, he, Q, h => h.elim
  | .refuse _, hd, nr, hnr, C, ro, m, hT, hro, a, w, S, env, hY, hg, he, Q, h => h.elim

/-! ### Functions -/
def resF (tmps : Array Value) : ResultVar → Sem Value
  | .tmp t => pure (tmps.getD t undef)
  | .cell a t => do loadVar t (← asAddr (tmps.getD a undef))
theorem aLoad_ptr {w : World} {rd} {S : St} {t : TypeId} {p : AV} {x : Value} (hx : Rel w rd p x) {K : AV → Prop} (h : aLoad C t p S K) : ∃ ad, x = .pointer (some ad) := by
  unfold aLoad at h
  split at h
  · simp only [Rel] at hx; obtain ⟨b, off, rfl, _⟩ := hx; exact ⟨_, rfl⟩
  · simp only [Rel] at hx; exact ⟨_, hx⟩
  · exact h.elim
theorem aRes_run (hT : TyOk P C) {w : World} {S : St} {tmps : Array Value} {env : Env} {n : Nat} (hg : Good C w S) (he : RelEnv w S tmps env n) : ∀ (rs : List ResultVar) {K : List AV → Prop}, aRes C env S rs K →
    ∃ xs vs, K xs ∧ (rs.mapM (resF tmps)).run P w = .ok vs w ∧ RelL w (rdOf S) xs vs ∧ vs.length = rs.length
  | [], K, h => ⟨[], [], h, rfl, by simp [RelL], rfl⟩
  | .tmp t :: r, K, h => by
    simp only [aRes, force_eq] at h
    obtain ⟨xs, vs, h1, h2, h3, h4⟩ := aRes_run hT hg he r h
    refine ⟨look t env :: xs, tmps.getD t undef :: vs, h1, ?_, ?_, by simp [h4]⟩
    · rw [List.mapM_cons]
      simp only [resF, Sem.run_bind, Sem.run_pure, Result.andThen_ok, h2]
    · simp only [RelL]
      exact ⟨_, vs, rfl, he.at_ t, h3⟩
  | .cell a t :: r, K, h => by
    simp only [aRes] at h
    obtain ⟨x, v, h1, h2, h3⟩ := aLoad_sound (P := P) hT hg.1 (he.at_ a) h
    obtain ⟨xs, vs, k1, k2, k3, k4⟩ := aRes_run hT hg he r h1
    refine ⟨x :: xs, v :: vs, k1, ?_, ?_, by simp [k4]⟩
    · rw [List.mapM_cons]
      obtain ⟨ad, had⟩ := aLoad_ptr (he.at_ a) h
      rw [had] at h3
      simp only [Instr.loadAt, Instr.sureAddr, Sem.run_bind, Sem.run_pure, Result.andThen_ok] at h3
      have h5 : (resF tmps (.cell a t)).run P w = .ok v w := by
        simp only [resF, had, asAddr, Sem.run_bind, Sem.run_pure, Result.andThen_ok, h3]
      simp only [Sem.run_bind, h5, Result.andThen_ok, k2, Sem.run_pure]
    · simp only [RelL]
      exact ⟨_, vs, rfl, h2, k3⟩
theorem results_sound (hT : TyOk P C) {w : World} {S : St} {tmps : Array Value} {env : Env} {n : Nat} (hg : Good C w S) (he : RelEnv w S tmps env n) {fn : Func} {K : AV → Prop} (h : aOut C fn.results.toList env S K) :
    ∃ x v, K x ∧ (results fn tmps).run P w = .ok v w ∧ Rel w (rdOf S) x v := by
  have hres : results fn tmps = (fn.results.mapM (resF tmps) >>= fun vs => pure (if h : vs.size = 1 then vs[0] else .tuple vs) : Sem Value) := by
    unfold results
    congr 1
  rw [hres, Array.mapM_eq_mapM_toList]
  unfold aOut at h
  split at h
  · rename_i r hr
    obtain ⟨xs, vs, h1, h2, h3, h4⟩ := aRes_run (P := P) hT hg he [r] h
    rw [hr]
    match vs, h4 with
    | [v], _ =>
      match xs, h3, h1 with
      | [x], h3, h1 =>
        unfold RelL at h3
        obtain ⟨u, us, hu, h5, _⟩ := h3
        simp only [List.cons.injEq] at hu
        obtain ⟨rfl, _⟩ := hu
        exact ⟨x, v, h1, by simp only [Sem.run_bind, Sem.run_map, h2, Result.andThen_ok, Sem.run_pure]; rfl, h5⟩
  · rename_i hne
    obtain ⟨xs, vs, h1, h2, h3, h4⟩ := aRes_run (P := P) hT hg he fn.results.toList h
    have hn1 : ¬ vs.toArray.size = 1 := by
      intro hh
      have hl : fn.results.toList.length = 1 := by rw [← h4]; simpa using hh
      match hr : fn.results.toList, hl with
      | [r], _ => exact hne r hr
    refine ⟨.tu xs, .tuple vs.toArray, h1, ?_, by simp only [Rel]; exact ⟨_, rfl, by simpa using h3⟩⟩
    simp only [Sem.run_bind, Sem.run_map, h2, Result.andThen_ok, Sem.run_pure]
    rw [dif_neg hn1]
theorem argEnv_sound {w : World} {S : St} : ∀ (i : Nat) (args : List AV) (vs : List Value), RelL w (rdOf S) args vs → ∀ (t : Nat), Rel w (rdOf S) (look t (argEnv i args)) ((vs[t - i]?).getD undef) ∨ look t (argEnv i args) = .top
  | i, [], vs, h, t => .inr rfl
  | i, x :: xs, vs, h, t => by
    simp only [RelL] at h
    obtain ⟨u, us, rfl, h1, h2⟩ := h
    simp only [argEnv, look_cons]
    by_cases e : i = t
    · subst e
      left
      simp only [if_true]
      simpa using h1
    · rw [if_neg e]
      rcases argEnv_sound (i + 1) xs us h2 t with h | h
      · by_cases hlt : t < i
        · right
          clear h h1 h2 e
          have : ∀ (ys : List AV) (j : Nat), t < j → look t (argEnv j ys) = .top := by
            intro ys
            induction ys with
            | nil => intro j _; rfl
            | cons y ys ih => intro j hj; simp only [argEnv, look_cons, if_neg (show ¬ j = t by omega)]; exact ih (j + 1) (by omega)
          exact this xs (i + 1) (by omega)
        · left
          rw [show t - i = (t - (i + 1)) + 1 from by omega]
          simpa using h
      · exact .inr h
/-! ### Deferred blocks that are shut -/
/-- Two worlds that differ in deferred blocks alone. -/
structure Shut (w w' : World) : Prop where
  os : w'.os = w.os
  tape : w'.tape = w.tape
  output : w'.output = w.output
  size : w'.heap.size = w.heap.size
  at_ : ∀ b : Nat, w'.heap[b]? = w.heap[b]? ∨ ∃ x y, w.heap[b]? = some (Obj.deferred x) ∧ w'.heap[b]? = some (Obj.deferred y)
theorem Shut.refl (w : World) : Shut w w := ⟨rfl, rfl, rfl, rfl, fun _ => .inl rfl⟩
theorem Shut.trans {w w' w'' : World} (h : Shut w w') (k : Shut w' w'') : Shut w w'' :=
  ⟨k.os.trans h.os, k.tape.trans h.tape, k.output.trans h.output, k.size.trans h.size, fun b => by
    rcases h.at_ b with h1 | ⟨x, y, h1, h2⟩
    · rcases k.at_ b with k1 | ⟨x, y, k1, k2⟩
      · exact .inl (k1.trans h1)
      · exact .inr ⟨x, y, h1 ▸ k1, k2⟩
    · rcases k.at_ b with k1 | ⟨x', y', k1, k2⟩
      · exact .inr ⟨x, y, h1, k1.trans h2⟩
      · exact .inr ⟨x, y', h1, k2⟩⟩
theorem Shut.put {w : World} {D : Nat} {x y : Option (List Deferred)} (h : w.heap[D]? = some (.deferred x)) : Shut w (w.putObj D (.deferred y)) :=
  ⟨rfl, rfl, rfl, by simp, fun b => by
    by_cases hb : b = D
    · subst hb; exact .inr ⟨x, y, h, World.putObj_heap_same (lt_of_block h)⟩
    · exact .inl (World.putObj_heap_other hb)⟩
theorem Shut.same {w w' : World} (h : Shut w w') {b : Nat} {o : Obj} (ho : w.heap[b]? = some o) (hn : ∀ x, o ≠ .deferred x) : w'.heap[b]? = some o := by
  rcases h.at_ b with h1 | ⟨x, y, h1, h2⟩
  · exact h1.trans ho
  · rw [ho] at h1; cases h1; exact absurd rfl (hn x)
theorem Shut.cell {w w' : World} (h : Shut w w') (b off : Nat) : w'.cell? ⟨b, off, none⟩ = w.cell? ⟨b, off, none⟩ := by
  rcases h.at_ b with h1 | ⟨x, y, h1, h2⟩
  · exact cell_of_block h1 off
  · simp [World.cell?, h1, h2]
theorem Shut.shape {w w' : World} (h : Shut w w') (b : Nat) : w'.shape? b = w.shape? b := by
  rcases h.at_ b with h1 | ⟨x, y, h1, h2⟩
  · exact shape_of_block h1
  · simp [World.shape?, h1, h2]
section shut
variable {w w' : World} {rd : Nat → Nat → Prop}
theorem stab_shut (h : Shut w w') {b off : Nat} {v : Value} (hs : stab w rd b off v) : stab w' rd b off v := ⟨hs.1, (h.cell b off).trans hs.2.1, hs.2.2⟩
theorem ShOk_shut (h : Shut w w') {sh : Sh} {k b off n cap : Nat} (hs : ShOk w sh k b off n cap) : ShOk w' sh k b off n cap := by
  cases sh with
  | own b' => obtain ⟨h1, h2, e, h3⟩ := hs; exact ⟨h1, h2, e, (h.shape _).trans h3⟩
  | acc b' => obtain ⟨h0, h1, h2, e, h3⟩ := hs; exact ⟨h0, h1, h2, e, (h.shape _).trans h3⟩
  | _ => exact hs
mutual
theorem Rel.shut (h : Shut w w') : ∀ (x : AV) (v : Value), Rel w rd x v → Rel w' rd x v
  | .int .., v, hr => by simpa only [Rel] using hr
  | .bool .., v, hr => by simpa only [Rel] using hr
  | .str .., v, hr => by simpa only [Rel] using hr
  | .nilp, v, hr => by simpa only [Rel] using hr
  | .ref .., v, hr => by simpa only [Rel] using hr
  | .imm xs, v, hr => by
    simp only [Rel] at hr ⊢
    obtain ⟨b, off, h1, h2⟩ := hr
    exact ⟨b, off, h1, RelAt.shut h b off xs h2⟩
  | .nils, v, hr => by simpa only [Rel] using hr
  | .sl sh k es, v, hr => by
    simp only [Rel] at hr ⊢
    rcases hr with hr | ⟨b, off, cap, h1, h2, h3, h4, h5⟩
    · exact .inl hr
    · exact .inr ⟨b, off, cap, h1, h2, h3, ShOk_shut h h4, RelRows.shut h k b off es h5⟩
  | .arr .., v, hr => by simpa only [Rel] using hr
  | .ag xs, v, hr => by
    simp only [Rel] at hr ⊢
    obtain ⟨cs, h1, h2, h3⟩ := hr
    exact ⟨cs, h1, RelL.shut h xs _ h2, h3⟩
  | .tu xs, v, hr => by
    simp only [Rel] at hr ⊢
    obtain ⟨cs, h1, h2⟩ := hr
    exact ⟨cs, h1, RelL.shut h xs _ h2⟩
  | .nilf, v, hr => by simpa only [Rel] using hr
  | .fn f xs ys, v, hr => by
    simp only [Rel] at hr ⊢
    obtain ⟨a, b, h1, h2, h3⟩ := hr
    exact ⟨a, b, h1, RelL.shut h xs _ h2, RelL.shut h ys _ h3⟩
  | .nili, v, hr => by simpa only [Rel] using hr
  | .ifc t x, v, hr => by
    simp only [Rel] at hr ⊢
    obtain ⟨y, h1, h2⟩ := hr
    exact ⟨y, h1, Rel.shut h x y h2⟩
  | .nilm, v, hr => by simpa only [Rel] using hr
  | .mp .., v, hr => by simpa only [Rel] using hr
  | .raw .., v, hr => by simpa only [Rel] using hr
  | .top, v, hr => by simp only [Rel]
theorem RelL.shut (h : Shut w w') : ∀ (xs : List AV) (vs : List Value), RelL w rd xs vs → RelL w' rd xs vs
  | [], vs, hr => by simpa only [RelL] using hr
  | x :: xs, vs, hr => by
    simp only [RelL] at hr ⊢
    obtain ⟨u, us, h1, h2, h3⟩ := hr
    exact ⟨u, us, h1, Rel.shut h x u h2, RelL.shut h xs us h3⟩
theorem RelAt.shut (h : Shut w w') (b off : Nat) : ∀ (xs : List AV), RelAt w rd b off xs → RelAt w' rd b off xs
  | [], hr => by simp only [RelAt]
  | x :: xs, hr => by
    simp only [RelAt] at hr ⊢
    obtain ⟨⟨v, h1, h2⟩, h3⟩ := hr
    exact ⟨⟨v, stab_shut h h1, Rel.shut h x v h2⟩, RelAt.shut h b (off + 1) xs h3⟩
theorem RelRows.shut (h : Shut w w') (k b off : Nat) : ∀ (es : List (List AV)), RelRows w rd k b off es → RelRows w' rd k b off es
  | [], hr => by simp only [RelRows]
  | e :: es, hr => by
    simp only [RelRows] at hr ⊢
    obtain ⟨⟨h1, h2⟩, h3⟩ := hr
    exact ⟨⟨h1, RelAt.shut h b off e h2⟩, RelRows.shut h k b (off + k) es h3⟩
end
theorem OwnOk.shut (h : Shut w w') {b : Nat} {o : Own} (ho : OwnOk w rd b o) : OwnOk w' rd b o := by
  cases o with
  | obj e cells => obtain ⟨cs, h1, h2, h3⟩ := ho; exact ⟨cs, h.same h1 (by simp), RelL.shut h _ _ h2, h3⟩
  | tip e k n => obtain ⟨cur, cap, h1, h2⟩ := ho; exact ⟨cur, cap, h.same h1 (by simp), h2⟩
  | mapo es => obtain ⟨ms, c, h1, h2, h3, h4⟩ := ho; exact ⟨ms, c, h.same h1 (by simp), RelL.shut h _ _ h2, RelL.shut h _ _ h3, h4⟩
  | siter s pos => exact h.same ho (by simp)
  | lp R st => exact h.same ho (by simp)
  | miter cur left =>
    obtain ⟨m, since, seen, last, h1, h2⟩ := ho
    refine ⟨m, since, seen, last, h.same h1 (by simp), ?_⟩
    cases m with
    | none => exact h2
    | some r =>
      obtain ⟨k1, ms, k2, k3, k4, k5, k6, k7⟩ := h2
      exact ⟨k1, ms, h.same k2 (by simp), k3, k4, RelL.shut h _ _ k5, RelL.shut h _ _ k6, fun kv hkv => by
        obtain ⟨e, e1, e2, e3, e4⟩ := k7 kv hkv
        exact ⟨e, e1, e2, Rel.shut h _ _ e3, Rel.shut h _ _ e4⟩⟩
theorem Good.shut (h : Shut w w') {S : St} (hg : Good C w S) : Good C w' S :=
  ⟨fun b o ho => OwnOk.shut h (hg.1 b o ho), fun g xs hx => by
    obtain ⟨k1, k2, k3, e, k4⟩ := hg.2 g xs hx
    exact ⟨k1, by rw [h.size]; exact k2, RelAt.shut h _ _ _ k3, e, (h.shape g).trans k4⟩⟩
end shut
/-- The marks are taken up, one by one. -/
theorem leaves_marks {F : Fence} {m : Nat} {fn : Func} {tmps : Array Value} {R : Ending → World → Prop} {u : FrameMode} (hu : u ≠ .run) : ∀ (ms : List Nat) (w : World), ms.Nodup → (∀ D ∈ ms, w.heap[D]? = some (.deferred (some []))) →
    (∀ w', Shut w w' → (∀ b, b ∉ ms → w'.heap[b]? = w.heap[b]?) → LeavesIn F m P fn tmps R [] u w') → LeavesInM F m P fn tmps R (ms.map markD ++ []) u w
  | [], w, hn, hm, h => h w (Shut.refl w) (fun _ _ => rfl)
  | D :: ms, w, hn, hm, h => by
    have hD := hm D (by simp)
    rw [List.nodup_cons] at hn
    refine ⟨hu, .inl ⟨D, _, rfl, run_takeDeferred hD, leaves_marks hu ms _ hn.2 (fun D' hD' => ?_) (fun w' h1 h2 => h w' ((Shut.put hD).trans h1) (fun b hb => ?_))⟩⟩
    · exact (World.putObj_heap_other (by rintro rfl; exact hn.1 hD')).trans (hm D' (by simp [hD']))
    · simp only [List.mem_cons, not_or] at hb
      exact (h2 b hb.2).trans (World.putObj_heap_other hb.1)
theorem bodyPostM_of_post {nr : Bool} {F : Fence} {fn : Func} {R : Ending → World → Prop} (hT : TyOk P C) {n m : Nat} {w : World} {S : St} {rs : List ResultVar} (hrs : fn.results.toList = rs) {Q : Out → St → Prop}
    (hR : ∀ o S' e w', OutRel w' S' o e → Good C w' S' → Adv w S w' S' → Q o S' → R e w') {e : Exit} {a' : Act} {w' : World} (h : Post nr C n [] w S (aPost C rs Q) e a' w') : bodyPostM F m P fn R e a' w' := by
  obtain ⟨ae, env', S', h1, h2, ⟨ms, hms, hnd, _, hmk⟩, h4, h5, h6⟩ := h
  have close : ∀ w'', Shut w' w'' → (∀ b, b ∉ ms → w''.heap[b]? = w'.heap[b]?) → RelEnv w'' S' a'.tmps env' n ∧ Good C w'' S' ∧ Adv w S w'' S' := fun w'' hs ho => by
    refine ⟨⟨h2.size, fun t => Rel.shut hs _ _ (h2.at_ t)⟩, Good.shut hs h4, hs.os.trans h5.os, hs.tape.trans h5.tape, hs.output.trans h5.output, by rw [hs.size]; exact h5.size, fun b hb hn => ?_, fun b off hb hr => ?_, fun b e n hx => ?_⟩
    · obtain ⟨k1, k2⟩ := h5.old b hb hn
      exact ⟨k1, (ho b (fun hm => by have := (hmk b hm).1; omega)).trans k2⟩
    · obtain ⟨k1, k2⟩ := h5.stay b off hb hr
      exact ⟨k1, (hs.cell b off).trans k2⟩
    · rw [hs.shape]; exact h5.shape b e n hx
  have fin : aOut C rs env' S' (fun x => ∃ y S'', Q (.ret y) S'' ∧ St.le S'' S' ∧ AV.leS S' S'' x y) → LeavesInM F m P fn a'.tmps R a'.defers .returning w' := by
    intro hx
    rw [hms]
    refine leaves_marks (by simp) ms w' hnd (fun D hD => (hmk D hD).2.2) fun w'' hs ho => ?_
    obtain ⟨q2, q4, q5⟩ := close w'' hs ho
    obtain ⟨x, v, ⟨y, S'', hq, hle, hxy⟩, k1, k2⟩ := results_sound (P := P) hT q4 q2 (by rw [hrs]; exact hx)
    exact ⟨v, k1, hR (.ret y) S'' _ _ (AV.leS_sound q4.1 hle x y v hxy k2) (q4.shrink hle) (q5.trans (Adv.shrink hle)) hq⟩
  cases ae with
  | normal =>
    cases e <;> simp only [ExRel] at h1
    exact fin h6
  | exit i => exact h6.elim
  | ret =>
    cases e <;> simp only [ExRel] at h1
    exact fin h6
  | panic x =>
    cases e <;> simp only [ExRel] at h1
    obtain ⟨v, rfl, hv⟩ := h1
    simp only [aPost, force_eq] at h6
    obtain ⟨y, S'', hq, hle, hxy⟩ := h6
    show LeavesInM F m P fn a'.tmps _ a'.defers _ w'
    rw [hms]
    refine leaves_marks (by simp) ms w' hnd (fun D hD => (hmk D hD).2.2) fun w'' hs ho => ?_
    obtain ⟨q2, q4, q5⟩ := close w'' hs ho
    exact hR (.pan y) S'' _ _ ⟨v, rfl, AV.leS_sound q4.1 hle x y v hxy (Rel.shut hs _ _ hv)⟩ (q4.shrink hle) (q5.trans (Adv.shrink hle)) hq
/-- THE WALK OF A FUNCTION gives its contract. -/
theorem tripleE_of_awp (hT : TyOk P C) (hm : P.follows .mixedOrders = true) {f : FuncId} {fn : Func} {c : Code} (hf : P.funcs[f]? = some fn) (hb : fn.body = some c) (hname : (fn.name == "runtime.NumGoroutine") = false)
    {n : Nat} (hn : fn.ntmps = n) (hd : dstOk n c = true) {args : List AV} (hargs : args.length ≤ n) {rs : List ResultVar} (hrs : fn.results.toList = rs) {S : St} {Q : Out → St → Prop}
    (h : awp P C c (argEnv 0 args) S (aPost C rs Q)) : TripleE P C f args S Q := by
  refine ⟨fun vs w => ?_, fun w vs hY hg hr => ?_⟩
  · have hno : ¬ fn.name = "runtime.NumGoroutine" := by simpa using hname
    simp [callFunc, hf, hno, hb]
  · have hvs : vs.size = args.length := by simpa using (RelL.length hr).symm
    have he : RelEnv w S (vs ++ Array.replicate (fn.ntmps - vs.size) undef) (argEnv 0 args) n := by
      refine ⟨by simp [hn, hvs]; omega, fun t => ?_⟩
      rcases argEnv_sound 0 args vs.toList hr t with h | h
      · by_cases ht : t < vs.size
        · have : (vs ++ Array.replicate (fn.ntmps - vs.size) undef).getD t undef = (vs.toList[t - 0]?).getD undef := by
            simp [Array.getD_eq_getD_getElem?, Array.getElem?_append_left ht]
          rw [this]; exact h
        · have htop : look t (argEnv 0 args) = .top := by
            have : ∀ (ys : List AV) (j : Nat), j + ys.length ≤ t → look t (argEnv j ys) = .top := by
              intro ys
              induction ys with
              | nil => intro j _; rfl
              | cons y ys ih => intro j hj; simp only [argEnv, look_cons, if_neg (show ¬ j = t by simp at hj; omega)]; exact ih (j + 1) (by simp at hj; omega)
            exact this args 0 (by omega)
          rw [htop]; simp only [Rel]
      · rw [h]; simp only [Rel]
    refine callsIn_wide.1 (callsIn_of_wp_marks (F := Fence.wide) (n := 0) hf hb trivial (wpIn_mono (awp_sound hm c hd (nr := false) (fun hb => by cases hb) hT (ro := none) (fun _ => rfl) hY hg (a := ⟨_, []⟩) he h) ?_))
    exact fun e a' w' hp => bodyPostM_of_post hT hrs (fun o S' e w' h1 h2 h3 h4 => ⟨o, S', h1, h2, h3, h4⟩) hp
theorem triple_of_awp (hT : TyOk P C) (hm : P.follows .mixedOrders = true) {f : FuncId} {fn : Func} {c : Code} (hf : P.funcs[f]? = some fn) (hb : fn.body = some c) (hname : (fn.name == "runtime.NumGoroutine") = false)
    {n : Nat} (hn : fn.ntmps = n) (hd : dstOk n c = true) {args : List AV} (hargs : args.length ≤ n) {rs : List ResultVar} (hrs : fn.results.toList = rs) {S : St} {Q : Out → St → Prop}
    (h : awp P C c (argEnv 0 args) S (aPost C rs Q)) : Triple P C f args S Q := (tripleE_of_awp hT hm hf hb hname hn hd hargs hrs h).triple
end
end Go.Proofs.YtdlgedpmbeafdaaGreatDoor.Aw

set_option maxRecDepth 100000
namespace Go.Proofs.YtdlgedpmbeafdaaGreatDoor.Aw
open Go
def ti1 : TI := ⟨1, 8, .nilFunc, .fn⟩
def ti2 : TI := ⟨1, 8, .int .i64 0, .int .i64⟩
def ti3 : TI := ⟨1, 8, .int .i64 0, .int .i64⟩
def ti4 : TI := ⟨1, 1, .bool false, .bool⟩
def ti5 : TI := ⟨1, 1, .int .u8 0, .int .u8⟩
def ti6 : TI := ⟨1, 1, .int .u8 0, .int .u8⟩
def ti7 : TI := ⟨4, 24, .agg #[.int .i64 0, .int .i64 0, .bool false, .int .u8 0], .strct [(0, 2), (1, 3), (2, 4), (3, 6)]⟩
def ti8 : TI := ⟨4, 24, .agg #[.int .i64 0, .int .i64 0, .bool false, .int .u8 0], .strct [(0, 2), (1, 3), (2, 4), (3, 6)]⟩
def ti9 : TI := ⟨1, 16, .string ByteArray.empty, .str⟩
def ti10 : TI := ⟨1, 16, .string ByteArray.empty, .str⟩
def ti11 : TI := ⟨1, 16, .string ByteArray.empty, .str⟩
def ti12 : TI := ⟨1, 8, .int .u64 0, .int .u64⟩
def ti13 : TI := ⟨2, 24, .agg #[.string ByteArray.empty, .int .u64 0], .strct [(0, 9), (1, 12)]⟩
def ti14 : TI := ⟨2, 24, .agg #[.string ByteArray.empty, .int .u64 0], .strct [(0, 9), (1, 12)]⟩
def ti15 : TI := ⟨1, 8, .pointer none, .ptr 236⟩
def ti16 : TI := ⟨1, 8, .pointer none, .ptr 239⟩
def ti17 : TI := ⟨1, 8, .pointer none, .ptr 246⟩
def ti18 : TI := ⟨1, 8, .agg #[.pointer none], .strct [(0, 17)]⟩
def ti19 : TI := ⟨1, 8, .agg #[.pointer none], .strct [(0, 17)]⟩
def ti20 : TI := ⟨1, 16, .nilIface, .iface true⟩
def ti21 : TI := ⟨1, 4, .int .i32 0, .int .i32⟩
def ti22 : TI := ⟨1, 8, .nilFunc, .fn⟩
def ti23 : TI := ⟨1, 24, .slice none 0 0, .slice 40⟩
def ti24 : TI := ⟨1, 16, .nilIface, .iface false⟩
def ti25 : TI := ⟨1, 16, .nilIface, .iface false⟩
def ti27 : TI := ⟨1, 8, .nilFunc, .fn⟩
def ti28 : TI := ⟨2, 16, .agg #[.int .i64 0, .int .i64 0], .strct [(0, 3), (1, 3)]⟩
def ti29 : TI := ⟨2, 16, .agg #[.int .i64 0, .int .i64 0], .strct [(0, 3), (1, 3)]⟩
def ti31 : TI := ⟨1, 8, .nilFunc, .fn⟩
def ti32 : TI := ⟨1, 24, .slice none 0 0, .slice 9⟩
def ti33 : TI := ⟨1, 8, .nilFunc, .fn⟩
def ti34 : TI := ⟨1, 24, .slice none 0 0, .slice 59⟩
def ti35 : TI := ⟨1, 24, .slice none 0 0, .slice 57⟩
def ti36 : TI := ⟨2, 40, .agg #[.slice none 0 0, .string ByteArray.empty], .strct [(0, 35), (1, 9)]⟩
def ti37 : TI := ⟨2, 40, .agg #[.slice none 0 0, .string ByteArray.empty], .strct [(0, 35), (1, 9)]⟩
def ti38 : TI := ⟨1, 24, .slice none 0 0, .slice 3⟩
def ti39 : TI := ⟨10, 176, .agg #[.int .i64 0, .string ByteArray.empty, .slice none 0 0, .slice none 0 0, .string ByteArray.empty, .slice none 0 0, .slice none 0 0, .int .i64 0, .string ByteArray.empty, .string ByteArray.empty], .strct [(0, 3), (1, 9), (2, 34), (3, 37), (5, 38), (6, 32), (7, 3), (8, 9), (9, 9)]⟩
def ti40 : TI := ⟨10, 176, .agg #[.int .i64 0, .string ByteArray.empty, .slice none 0 0, .slice none 0 0, .string ByteArray.empty, .slice none 0 0, .slice none 0 0, .int .i64 0, .string ByteArray.empty, .string ByteArray.empty], .strct [(0, 3), (1, 9), (2, 34), (3, 37), (5, 38), (6, 32), (7, 3), (8, 9), (9, 9)]⟩
def ti41 : TI := ⟨1, 8, .int .i64 0, .int .i64⟩
def ti43 : TI := ⟨1, 8, .nilFunc, .fn⟩
def ti44 : TI := ⟨1, 8, .nilFunc, .fn⟩
def ti45 : TI := ⟨1, 8, .nilFunc, .fn⟩
def ti46 : TI := ⟨1, 8, .nilFunc, .fn⟩
def ti47 : TI := ⟨1, 8, .pointer none, .ptr 73⟩
def ti48 : TI := ⟨1, 8, .nilFunc, .fn⟩
def ti49 : TI := ⟨1, 8, .nilFunc, .fn⟩
def ti51 : TI := ⟨1, 8, .nilFunc, .fn⟩
def ti53 : TI := ⟨1, 8, .nilFunc, .fn⟩
def ti54 : TI := ⟨1, 8, .nilFunc, .fn⟩
def ti55 : TI := ⟨1, 8, .nilFunc, .fn⟩
def ti56 : TI := ⟨2, 24, .agg #[.string ByteArray.empty, .int .i64 0], .strct [(0, 9), (1, 3)]⟩
def ti57 : TI := ⟨2, 24, .agg #[.string ByteArray.empty, .int .i64 0], .strct [(0, 9), (1, 3)]⟩
def ti58 : TI := ⟨3, 32, .agg #[.int .i64 0, .string ByteArray.empty, .int .i64 0], .strct [(0, 3), (1, 9), (2, 3)]⟩
def ti59 : TI := ⟨3, 32, .agg #[.int .i64 0, .string ByteArray.empty, .int .i64 0], .strct [(0, 3), (1, 9), (2, 3)]⟩
def ti60 : TI := ⟨1, 8, .pointer none, .ptr 62⟩
def ti61 : TI := ⟨3, 24, .agg #[.int .i64 0, .int .i64 0, .int .i64 0], .strct [(0, 3), (1, 3), (2, 41)]⟩
def ti62 : TI := ⟨3, 24, .agg #[.int .i64 0, .int .i64 0, .int .i64 0], .strct [(0, 3), (1, 3), (2, 41)]⟩
def ti64 : TI := ⟨1, 8, .nilFunc, .fn⟩
def ti65 : TI := ⟨1, 8, .nilFunc, .fn⟩
def ti67 : TI := ⟨1, 8, .nilFunc, .fn⟩
def ti68 : TI := ⟨1, 8, .nilFunc, .fn⟩
def ti69 : TI := ⟨1, 8, .pointer none, .ptr 60⟩
def ti70 : TI := ⟨1, 8, .nilFunc, .fn⟩
def ti71 : TI := ⟨1, 8, .nilFunc, .fn⟩
def ti72 : TI := ⟨1, 8, .agg #[.int .i64 0], .strct [(0, 3)]⟩
def ti73 : TI := ⟨1, 8, .agg #[.int .i64 0], .strct [(0, 3)]⟩
def ti74 : TI := ⟨1, 8, .nilFunc, .fn⟩
def ti75 : TI := ⟨1, 8, .pointer none, .ptr 78⟩
def ti76 : TI := ⟨1, 24, .slice none 0 0, .slice 5⟩
def ti77 : TI := ⟨2, 32, .agg #[.pointer none, .slice none 0 0], .strct [(0, 75), (1, 76)]⟩
def ti78 : TI := ⟨2, 32, .agg #[.pointer none, .slice none 0 0], .strct [(0, 75), (1, 76)]⟩
def ti80 : TI := ⟨1, 8, .nilFunc, .fn⟩
def ti81 : TI := ⟨1, 8, .nilFunc, .fn⟩
def ti82 : TI := ⟨1, 8, .nilFunc, .fn⟩
def ti83 : TI := ⟨1, 8, .nilFunc, .fn⟩
def ti84 : TI := ⟨1, 8, .nilFunc, .fn⟩
def ti85 : TI := ⟨1, 8, .pointer none, .ptr 87⟩
def ti86 : TI := ⟨11, 200, .agg #[.slice none 0 0, .int .i64 0, .string ByteArray.empty, .slice none 0 0, .slice none 0 0, .string ByteArray.empty, .slice none 0 0, .slice none 0 0, .int .i64 0, .string ByteArray.empty, .string ByteArray.empty], .strct [(0, 32), (1, 40)]⟩
def ti87 : TI := ⟨11, 200, .agg #[.slice none 0 0, .int .i64 0, .string ByteArray.empty, .slice none 0 0, .slice none 0 0, .string ByteArray.empty, .slice none 0 0, .slice none 0 0, .int .i64 0, .string ByteArray.empty, .string ByteArray.empty], .strct [(0, 32), (1, 40)]⟩
def ti88 : TI := ⟨1, 8, .nilFunc, .fn⟩
def ti89 : TI := ⟨1, 8, .nilFunc, .fn⟩
def ti91 : TI := ⟨1, 8, .map none, .map 9 89⟩
def ti92 : TI := ⟨1, 8, .nilFunc, .fn⟩
def ti93 : TI := ⟨1, 8, .nilFunc, .fn⟩
def ti94 : TI := ⟨1, 8, .nilFunc, .fn⟩
def ti96 : TI := ⟨1, 8, .int .u64 0, .int .u64⟩
def ti97 : TI := ⟨3, 24, .agg #[.pointer none, .pointer none, .int .u64 0], .strct [(0, 17), (1, 95), (2, 96)]⟩
def ti98 : TI := ⟨3, 24, .agg #[.pointer none, .pointer none, .int .u64 0], .strct [(0, 17), (1, 95), (2, 96)]⟩
def ti99 : TI := ⟨1, 8, .nilFunc, .fn⟩
def ti100 : TI := ⟨1, 16, .nilIface, .iface false⟩
def ti101 : TI := ⟨1, 16, .nilIface, .iface false⟩
def ti102 : TI := ⟨1, 8, .nilFunc, .fn⟩
def ti103 : TI := ⟨1, 1, .int .u8 0, .int .u8⟩
def ti104 : TI := ⟨1, 8, .nilFunc, .fn⟩
def ti105 : TI := ⟨1, 8, .nilFunc, .fn⟩
def ti106 : TI := ⟨1, 8, .nilFunc, .fn⟩
def ti107 : TI := ⟨1, 8, .nilFunc, .fn⟩
def ti108 : TI := ⟨1, 8, .nilFunc, .fn⟩
def ti109 : TI := ⟨1, 8, .nilFunc, .fn⟩
def ti110 : TI := ⟨1, 8, .nilFunc, .fn⟩
def ti111 : TI := ⟨1, 8, .nilFunc, .fn⟩
def ti112 : TI := ⟨1, 8, .pointer none, .ptr 5⟩
def ti113 : TI := ⟨1, 8, .nilFunc, .fn⟩
def ti114 : TI := ⟨1, 8, .nilFunc, .fn⟩
def ti115 : TI := ⟨1, 8, .nilFunc, .fn⟩
def ti116 : TI := ⟨1, 8, .nilFunc, .fn⟩
def ti117 : TI := ⟨1, 8, .nilFunc, .fn⟩
def ti118 : TI := ⟨1, 8, .nilFunc, .fn⟩
def ti119 : TI := ⟨1, 8, .nilFunc, .fn⟩
def ti120 : TI := ⟨1, 8, .nilFunc, .fn⟩
def ti121 : TI := ⟨1, 8, .nilFunc, .fn⟩
def ti122 : TI := ⟨1, 8, .nilFunc, .fn⟩
def ti123 : TI := ⟨1, 8, .nilFunc, .fn⟩
def ti124 : TI := ⟨1, 8, .nilFunc, .fn⟩
def ti125 : TI := ⟨1, 8, .agg #[.pointer none], .strct [(0, 17)]⟩
def ti126 : TI := ⟨1, 8, .agg #[.pointer none], .strct [(0, 17)]⟩
def ti127 : TI := ⟨1, 8, .pointer none, .ptr 250⟩
def ti128 : TI := ⟨1, 8, .nilFunc, .fn⟩
def ti129 : TI := ⟨1, 8, .nilFunc, .fn⟩
def ti130 : TI := ⟨1, 8, .nilFunc, .fn⟩
def ti131 : TI := ⟨1, 16, .nilIface, .iface false⟩
def ti133 : TI := ⟨1, 8, .nilFunc, .fn⟩
def ti134 : TI := ⟨1, 16, .nilIface, .iface false⟩
def ti135 : TI := ⟨1, 16, .nilIface, .iface false⟩
def ti136 : TI := ⟨1, 24, .slice none 0 0, .slice 25⟩
def ti137 : TI := ⟨1, 8, .nilFunc, .fn⟩
def ti138 : TI := ⟨1, 8, .nilFunc, .fn⟩
def ti139 : TI := ⟨1, 8, .nilFunc, .fn⟩
def ti140 : TI := ⟨1, 8, .nilFunc, .fn⟩
def ti141 : TI := ⟨1, 8, .nilFunc, .fn⟩
def ti143 : TI := ⟨1, 8, .nilFunc, .fn⟩
def ti144 : TI := ⟨1, 8, .nilFunc, .fn⟩
def ti145 : TI := ⟨1, 24, .slice none 0 0, .slice 147⟩
def ti146 : TI := ⟨2, 16, .agg #[.int .i64 0, .int .i64 0], .strct [(0, 3), (1, 3)]⟩
def ti147 : TI := ⟨2, 16, .agg #[.int .i64 0, .int .i64 0], .strct [(0, 3), (1, 3)]⟩
def ti148 : TI := ⟨1, 8, .nilFunc, .fn⟩
def ti149 : TI := ⟨1, 8, .nilFunc, .fn⟩
def ti151 : TI := ⟨1, 8, .nilFunc, .fn⟩
def ti152 : TI := ⟨1, 8, .nilFunc, .fn⟩
def ti153 : TI := ⟨1, 8, .int .u64 0, .int .u64⟩
def ti154 : TI := ⟨1, 8, .nilFunc, .fn⟩
def ti155 : TI := ⟨1, 8, .nilFunc, .fn⟩
def ti156 : TI := ⟨1, 8, .map none, .map 9 3⟩
def ti157 : TI := ⟨1, 8, .nilFunc, .fn⟩
def ti158 : TI := ⟨1, 8, .nilFunc, .fn⟩
def ti159 : TI := ⟨1, 4, .int .u32 0, .int .u32⟩
def ti161 : TI := ⟨1, 8, .nilFunc, .fn⟩
def ti162 : TI := ⟨256, 256, .agg #[.int .u8 0, .int .u8 0, .int .u8 0, .int .u8 0, .int .u8 0, .int .u8 0, .int .u8 0, .int .u8 0, .int .u8 0, .int .u8 0, .int .u8 0, .int .u8 0, .int .u8 0, .int .u8 0, .int .u8 0, .int .u8 0, .int .u8 0, .int .u8 0, .int .u8 0, .int .u8 0, .int .u8 0, .int .u8 0, .int .u8 0, .int .u8 0, .int .u8 0, .int .u8 0, .int .u8 0, .int .u8 0, .int .u8 0, .int .u8 0, .int .u8 0, .int .u8 0, .int .u8 0, .int .u8 0, .int .u8 0, .int .u8 0, .int .u8 0, .int .u8 0, .int .u8 0, .int .u8 0, .int .u8 0, .int .u8 0, .int .u8 0, .int .u8 0, .int .u8 0, .int .u8 0, .int .u8 0, .int .u8 0, .int .u8 0, .int .u8 0, .int .u8 0, .int .u8 0, .int .u8 0, .int .u8 0, .int .u8 0, .int .u8 0, .int .u8 0, .int .u8 0, .int .u8 0, .int .u8 0, .int .u8 0, .int .u8 0, .int .u8 0, .int .u8 0, .int .u8 0, .int .u8 0, .int .u8 0, .int .u8 0, .int .u8 0, .int .u8 0, .int .u8 0, .int .u8 0, .int .u8 0, .int .u8 0, .int .u8 0, .int .u8 0, .int .u8 0, .int .u8 0, .int .u8 0, .int .u8 0, .int .u8 0, .int .u8 0, .int .u8 0, .int .u8 0, .int .u8 0, .int .u8 0, .int .u8 0, .int .u8 0, .int .u8 0, .int .u8 0, .int .u8 0, .int .u8 0, .int .u8 0, .int .u8 0, .int .u8 0, .int .u8 0, .int .u8 0, .int .u8 0, .int .u8 0, .int .u8 0, .int .u8 0, .int .u8 0, .int .u8 0, .int .u8 0, .int .u8 0, .int .u8 0, .int .u8 0, .int .u8 0, .int .u8 0, .int .u8 0, .int .u8 0, .int .u8 0, .int .u8 0, .int .u8 0, .int .u8 0, .int .u8 0, .int .u8 0, .int .u8 0, .int .u8 0, .int .u8 0, .int .u8 0, .int .u8 0, .int .u8 0, .int .u8 0, .int .u8 0, .int .u8 0, .int .u8 0, .int .u8 0, .int .u8 0, .int .u8 0, .int .u8 0, .int .u8 0, .int .u8 0, .int .u8 0, .int .u8 0, .int .u8 0, .int .u8 0, .int .u8 0, .int .u8 0, .int .u8 0, .int .u8 0, .int .u8 0, .int .u8 0, .int .u8 0, .int .u8 0, .int .u8 0, .int .u8 0, .int .u8 0, .int .u8 0, .int .u8 0, .int .u8 0, .int .u8 0, .int .u8 0, .int .u8 0, .int .u8 0, .int .u8 0, .int .u8 0, .int .u8 0, .int .u8 0, .int .u8 0, .int .u8 0, .int .u8 0, .int .u8 0, .int .u8 0, .int .u8 0, .int .u8 0, .int .u8 0, .int .u8 0, .int .u8 0, .int .u8 0, .int .u8 0, .int .u8 0, .int .u8 0, .int .u8 0, .int .u8 0, .int .u8 0, .int .u8 0, .int .u8 0, .int .u8 0, .int .u8 0, .int .u8 0, .int .u8 0, .int .u8 0, .int .u8 0, .int .u8 0, .int .u8 0, .int .u8 0, .int .u8 0, .int .u8 0, .int .u8 0, .int .u8 0, .int .u8 0, .int .u8 0, .int .u8 0, .int .u8 0, .int .u8 0, .int .u8 0, .int .u8 0, .int .u8 0, .int .u8 0, .int .u8 0, .int .u8 0, .int .u8 0, .int .u8 0, .int .u8 0, .int .u8 0, .int .u8 0, .int .u8 0, .int .u8 0, .int .u8 0, .int .u8 0, .int .u8 0, .int .u8 0, .int .u8 0, .int .u8 0, .int .u8 0, .int .u8 0, .int .u8 0, .int .u8 0, .int .u8 0, .int .u8 0, .int .u8 0, .int .u8 0, .int .u8 0, .int .u8 0, .int .u8 0, .int .u8 0, .int .u8 0, .int .u8 0, .int .u8 0, .int .u8 0, .int .u8 0, .int .u8 0, .int .u8 0, .int .u8 0, .int .u8 0, .int .u8 0, .int .u8 0, .int .u8 0, .int .u8 0, .int .u8 0, .int .u8 0, .int .u8 0, .int .u8 0, .int .u8 0, .int .u8 0, .int .u8 0, .int .u8 0, .int .u8 0, .int .u8 0, .int .u8 0, .int .u8 0, .int .u8 0, .int .u8 0, .int .u8 0, .int .u8 0], .array 256 5⟩
def ti163 : TI := ⟨2, 2, .agg #[.int .u8 0, .int .u8 0], .strct [(0, 5), (1, 5)]⟩
def ti164 : TI := ⟨2, 2, .agg #[.int .u8 0, .int .u8 0], .strct [(0, 5), (1, 5)]⟩
def ti165 : TI := ⟨32, 32, .agg #[.int .u8 0, .int .u8 0, .int .u8 0, .int .u8 0, .int .u8 0, .int .u8 0, .int .u8 0, .int .u8 0, .int .u8 0, .int .u8 0, .int .u8 0, .int .u8 0, .int .u8 0, .int .u8 0, .int .u8 0, .int .u8 0, .int .u8 0, .int .u8 0, .int .u8 0, .int .u8 0, .int .u8 0, .int .u8 0, .int .u8 0, .int .u8 0, .int .u8 0, .int .u8 0, .int .u8 0, .int .u8 0, .int .u8 0, .int .u8 0, .int .u8 0, .int .u8 0], .array 16 164⟩
def ti166 : TI := ⟨1, 24, .slice none 0 0, .slice 159⟩
def ti167 : TI := ⟨3, 40, .agg #[.int .i64 0, .bool false, .slice none 0 0], .strct [(0, 3), (1, 4), (2, 166)]⟩
def ti168 : TI := ⟨3, 40, .agg #[.int .i64 0, .bool false, .slice none 0 0], .strct [(0, 3), (1, 4), (2, 166)]⟩
def ti170 : TI := ⟨1, 8, .nilFunc, .fn⟩
def ti171 : TI := ⟨1, 8, .nilFunc, .fn⟩
def ti172 : TI := ⟨1, 8, .nilFunc, .fn⟩
def ti174 : TI := ⟨1, 8, .nilFunc, .fn⟩
def ti176 : TI := ⟨1, 8, .nilFunc, .fn⟩
def ti177 : TI := ⟨1, 8, .nilFunc, .fn⟩
def ti178 : TI := ⟨1, 8, .nilFunc, .fn⟩
def ti179 : TI := ⟨1, 8, .nilFunc, .fn⟩
def ti180 : TI := ⟨1, 8, .nilFunc, .fn⟩
def ti181 : TI := ⟨1, 8, .nilFunc, .fn⟩
def ti182 : TI := ⟨1, 8, .int .u64 0, .int .u64⟩
def ti183 : TI := ⟨24, 24, .agg #[.int .u8 0, .int .u8 0, .int .u8 0, .int .u8 0, .int .u8 0, .int .u8 0, .int .u8 0, .int .u8 0, .int .u8 0, .int .u8 0, .int .u8 0, .int .u8 0, .int .u8 0, .int .u8 0, .int .u8 0, .int .u8 0, .int .u8 0, .int .u8 0, .int .u8 0, .int .u8 0, .int .u8 0, .int .u8 0, .int .u8 0, .int .u8 0], .array 24 5⟩
def ti184 : TI := ⟨1, 8, .nilFunc, .fn⟩
def ti185 : TI := ⟨1, 8, .nilFunc, .fn⟩
def ti187 : TI := ⟨1, 8, .nilFunc, .fn⟩
def ti188 : TI := ⟨1, 8, .nilFunc, .fn⟩
def ti189 : TI := ⟨1, 8, .nilFunc, .fn⟩
def ti190 : TI := ⟨1, 8, .nilFunc, .fn⟩
def ti191 : TI := ⟨1, 8, .nilFunc, .fn⟩
def ti193 : TI := ⟨1, 8, .nilFunc, .fn⟩
def ti194 : TI := ⟨1, 8, .nilFunc, .fn⟩
def ti195 : TI := ⟨1, 8, .nilFunc, .fn⟩
def ti196 : TI := ⟨1, 8, .nilFunc, .fn⟩
def ti197 : TI := ⟨1, 8, .nilFunc, .fn⟩
def ti198 : TI := ⟨1, 8, .nilFunc, .fn⟩
def ti199 : TI := ⟨1, 8, .nilFunc, .fn⟩
def ti200 : TI := ⟨20, 160, .agg #[.int .u64 0, .int .u64 0, .int .u64 0, .int .u64 0, .int .u64 0, .int .u64 0, .int .u64 0, .int .u64 0, .int .u64 0, .int .u64 0, .int .u64 0, .int .u64 0, .int .u64 0, .int .u64 0, .int .u64 0, .int .u64 0, .int .u64 0, .int .u64 0, .int .u64 0, .int .u64 0], .array 20 182⟩
def ti201 : TI := ⟨65, 65, .agg #[.int .u8 0, .int .u8 0, .int .u8 0, .int .u8 0, .int .u8 0, .int .u8 0, .int .u8 0, .int .u8 0, .int .u8 0, .int .u8 0, .int .u8 0, .int .u8 0, .int .u8 0, .int .u8 0, .int .u8 0, .int .u8 0, .int .u8 0, .int .u8 0, .int .u8 0, .int .u8 0, .int .u8 0, .int .u8 0, .int .u8 0, .int .u8 0, .int .u8 0, .int .u8 0, .int .u8 0, .int .u8 0, .int .u8 0, .int .u8 0, .int .u8 0, .int .u8 0, .int .u8 0, .int .u8 0, .int .u8 0, .int .u8 0, .int .u8 0, .int .u8 0, .int .u8 0, .int .u8 0, .int .u8 0, .int .u8 0, .int .u8 0, .int .u8 0, .int .u8 0, .int .u8 0, .int .u8 0, .int .u8 0, .int .u8 0, .int .u8 0, .int .u8 0, .int .u8 0, .int .u8 0, .int .u8 0, .int .u8 0, .int .u8 0, .int .u8 0, .int .u8 0, .int .u8 0, .int .u8 0, .int .u8 0, .int .u8 0, .int .u8 0, .int .u8 0, .int .u8 0], .array 65 5⟩
def ti202 : TI := ⟨1, 8, .nilFunc, .fn⟩
def ti203 : TI := ⟨1, 8, .nilFunc, .fn⟩
def ti204 : TI := ⟨1, 8, .nilFunc, .fn⟩
def ti205 : TI := ⟨1, 8, .nilFunc, .fn⟩
def ti206 : TI := ⟨1, 8, .nilFunc, .fn⟩
def ti207 : TI := ⟨1, 8, .nilFunc, .fn⟩
def ti208 : TI := ⟨1, 8, .int .i64 0, .int .i64⟩
def ti210 : TI := ⟨1, 8, .nilFunc, .fn⟩
def ti211 : TI := ⟨1, 8, .pointer none, .ptr 226⟩
def ti212 : TI := ⟨1, 8, .nilFunc, .fn⟩
def ti213 : TI := ⟨1, 8, .nilFunc, .fn⟩
def ti215 : TI := ⟨1, 8, .nilFunc, .fn⟩
def ti216 : TI := ⟨1, 8, .nilFunc, .fn⟩
def ti217 : TI := ⟨1, 8, .pointer none, .ptr 219⟩
def ti218 : TI := ⟨2, 32, .agg #[.slice none 0 0, .int .i64 0], .strct [(0, 166), (1, 2)]⟩
def ti219 : TI := ⟨2, 32, .agg #[.slice none 0 0, .int .i64 0], .strct [(0, 166), (1, 2)]⟩
def ti220 : TI := ⟨1, 8, .nilFunc, .fn⟩
def ti221 : TI := ⟨1, 8, .nilFunc, .fn⟩
def ti223 : TI := ⟨1, 8, .nilFunc, .fn⟩
def ti224 : TI := ⟨1, 8, .nilFunc, .fn⟩
def ti225 : TI := ⟨3, 48, .agg #[.string ByteArray.empty, .string ByteArray.empty, .nilIface], .strct [(0, 9), (1, 9), (2, 25)]⟩
def ti226 : TI := ⟨3, 48, .agg #[.string ByteArray.empty, .string ByteArray.empty, .nilIface], .strct [(0, 9), (1, 9), (2, 25)]⟩
def ti227 : TI := ⟨1, 8, .nilFunc, .fn⟩
def ti228 : TI := ⟨1, 8, .nilFunc, .fn⟩
def ti229 : TI := ⟨32, 32, .agg #[.int .u8 0, .int .u8 0, .int .u8 0, .int .u8 0, .int .u8 0, .int .u8 0, .int .u8 0, .int .u8 0, .int .u8 0, .int .u8 0, .int .u8 0, .int .u8 0, .int .u8 0, .int .u8 0, .int .u8 0, .int .u8 0, .int .u8 0, .int .u8 0, .int .u8 0, .int .u8 0, .int .u8 0, .int .u8 0, .int .u8 0, .int .u8 0, .int .u8 0, .int .u8 0, .int .u8 0, .int .u8 0, .int .u8 0, .int .u8 0, .int .u8 0, .int .u8 0], .array 32 5⟩
def ti230 : TI := ⟨64, 64, .agg #[.int .u8 0, .int .u8 0, .int .u8 0, .int .u8 0, .int .u8 0, .int .u8 0, .int .u8 0, .int .u8 0, .int .u8 0, .int .u8 0, .int .u8 0, .int .u8 0, .int .u8 0, .int .u8 0, .int .u8 0, .int .u8 0, .int .u8 0, .int .u8 0, .int .u8 0, .int .u8 0, .int .u8 0, .int .u8 0, .int .u8 0, .int .u8 0, .int .u8 0, .int .u8 0, .int .u8 0, .int .u8 0, .int .u8 0, .int .u8 0, .int .u8 0, .int .u8 0, .int .u8 0, .int .u8 0, .int .u8 0, .int .u8 0, .int .u8 0, .int .u8 0, .int .u8 0, .int .u8 0, .int .u8 0, .int .u8 0, .int .u8 0, .int .u8 0, .int .u8 0, .int .u8 0, .int .u8 0, .int .u8 0, .int .u8 0, .int .u8 0, .int .u8 0, .int .u8 0, .int .u8 0, .int .u8 0, .int .u8 0, .int .u8 0, .int .u8 0, .int .u8 0, .int .u8 0, .int .u8 0, .int .u8 0, .int .u8 0, .int .u8 0, .int .u8 0], .array 64 5⟩
def ti231 : TI := ⟨1, 8, .nilFunc, .fn⟩
def ti232 : TI := ⟨1, 8, .pointer none, .ptr 234⟩
def ti233 : TI := ⟨1, 16, .agg #[.string ByteArray.empty], .strct [(0, 9)]⟩
def ti234 : TI := ⟨1, 16, .agg #[.string ByteArray.empty], .strct [(0, 9)]⟩
def ti235 : TI := ⟨4, 40, .agg #[.pointer none, .pointer none, .pointer none, .string ByteArray.empty], .strct [(0, 17), (1, 17), (2, 17), (3, 9)]⟩
def ti236 : TI := ⟨4, 40, .agg #[.pointer none, .pointer none, .pointer none, .string ByteArray.empty], .strct [(0, 17), (1, 17), (2, 17), (3, 9)]⟩
def ti237 : TI := ⟨0, 0, .agg #[], .array 0 16⟩
def ti238 : TI := ⟨0, 0, .agg #[], .strct [(0, 237)]⟩
def ti239 : TI := ⟨0, 0, .agg #[], .strct [(0, 237)]⟩
def ti240 : TI := ⟨1, 8, .nilFunc, .fn⟩
def ti241 : TI := ⟨1, 1, .int .u8 0, .int .u8⟩
def ti242 : TI := ⟨1, 8, .nilFunc, .fn⟩
def ti243 : TI := ⟨1, 4, .int .i32 0, .int .i32⟩
def ti244 : TI := ⟨1, 4, .int .i32 0, .int .i32⟩
def ti245 : TI := ⟨11, 48, .agg #[.int .u64 0, .int .u64 0, .int .u32 0, .int .u8 0, .int .u8 0, .int .u8 0, .int .u8 0, .nilFunc, .pointer none, .int .i32 0, .int .i32 0], .strct [(0, 12), (1, 12), (2, 159), (3, 241), (4, 5), (5, 5), (6, 103), (7, 242), (8, 112), (9, 243), (10, 244)]⟩
def ti246 : TI := ⟨11, 48, .agg #[.int .u64 0, .int .u64 0, .int .u32 0, .int .u8 0, .int .u8 0, .int .u8 0, .int .u8 0, .nilFunc, .pointer none, .int .i32 0, .int .i32 0], .strct [(0, 12), (1, 12), (2, 159), (3, 241), (4, 5), (5, 5), (6, 103), (7, 242), (8, 112), (9, 243), (10, 244)]⟩
def ti247 : TI := ⟨1, 8, .nilFunc, .fn⟩
def ti248 : TI := ⟨1, 8, .nilFunc, .fn⟩
def ti249 : TI := ⟨2, 24, .agg #[.string ByteArray.empty, .int .u8 0], .strct [(0, 9), (1, 103)]⟩
def ti250 : TI := ⟨2, 24, .agg #[.string ByteArray.empty, .int .u8 0], .strct [(0, 9), (1, 103)]⟩
def ti251 : TI := ⟨1, 8, .pointer none, .ptr 255⟩
def ti252 : TI := ⟨1, 8, .nilFunc, .fn⟩
def ti253 : TI := ⟨1, 2, .int .u16 0, .int .u16⟩
def ti254 : TI := ⟨5, 16, .agg #[.int .i32 0, .int .u16 0, .int .u16 0, .int .u32 0, .int .u32 0], .strct [(0, 243), (1, 253), (2, 253), (3, 159), (4, 159)]⟩
def ti255 : TI := ⟨5, 16, .agg #[.int .i32 0, .int .u16 0, .int .u16 0, .int .u32 0, .int .u32 0], .strct [(0, 243), (1, 253), (2, 253), (3, 159), (4, 159)]⟩
def ti256 : TI := ⟨1, 24, .slice none 0 0, .slice 259⟩
def ti257 : TI := ⟨1, 4, .int .i32 0, .int .i32⟩
def ti258 : TI := ⟨4, 16, .agg #[.int .i32 0, .int .i32 0, .int .i32 0, .int .i32 0], .strct [(0, 243), (1, 244), (2, 257), (3, 257)]⟩
def ti259 : TI := ⟨4, 16, .agg #[.int .i32 0, .int .i32 0, .int .i32 0, .int .i32 0], .strct [(0, 243), (1, 244), (2, 257), (3, 257)]⟩
def ti260 : TI := ⟨1, 8, .pointer none, .ptr 25⟩
def leafT (n : Nat) (ti : TI) (t : Nat) : TI := bif Nat.beq t n then ti else TI.none
def OkT (P : Program) (t : Nat) (ti : TI) : Prop := TIok P t ti ∨ ti = TI.none
theorem leafT_ok {P : Program} {n : Nat} {ti : TI} (h : TIok P n ti) (t : Nat) : OkT P t (leafT n ti t) := by
  unfold leafT
  cases e : Nat.beq t n with
  | true => have := Nat.eq_of_beq_eq_true e; subst this; exact .inl h
  | false => exact .inr rfl
theorem nodeT_ok {P : Program} {t : Nat} {b : Bool} {x y : TI} (hx : OkT P t x) (hy : OkT P t y) : OkT P t (bif b then x else y) := by cases b <;> assumption
theorem tiOk1 : TIok Tryz.prog 1 ti1 := ⟨by kernel_rfl, by kernel_rfl, rfl, rfl⟩
theorem tiOk2 : TIok Tryz.prog 2 ti2 := ⟨by kernel_rfl, by kernel_rfl, rfl, rfl⟩
theorem tiOk3 : TIok Tryz.prog 3 ti3 := ⟨by kernel_rfl, by kernel_rfl, rfl, rfl⟩
theorem tiOk4 : TIok Tryz.prog 4 ti4 := ⟨by kernel_rfl, by kernel_rfl, rfl, rfl⟩
theorem tiOk5 : TIok Tryz.prog 5 ti5 := ⟨by kernel_rfl, by kernel_rfl, rfl, rfl⟩
theorem tiOk6 : TIok Tryz.prog 6 ti6 := ⟨by kernel_rfl, by kernel_rfl, rfl, rfl⟩
theorem tiOk7 : TIok Tryz.prog 7 ti7 := ⟨by kernel_rfl, by kernel_rfl, rfl, rfl⟩
theorem tiOk8 : TIok Tryz.prog 8 ti8 := ⟨by kernel_rfl, by kernel_rfl, rfl, rfl⟩
theorem tiOk9 : TIok Tryz.prog 9 ti9 := ⟨by kernel_rfl, by kernel_rfl, rfl, rfl⟩
theorem tiOk10 : TIok Tryz.prog 10 ti10 := ⟨by kernel_rfl, by kernel_rfl, rfl, rfl⟩
theorem tiOk11 : TIok Tryz.prog 11 ti11 := ⟨by kernel_rfl, by kernel_rfl, rfl, rfl⟩
theorem tiOk12 : TIok Tryz.prog 12 ti12 := ⟨by kernel_rfl, by kernel_rfl, rfl, rfl⟩
theorem tiOk13 : TIok Tryz.prog 13 ti13 := ⟨by kernel_rfl, by kernel_rfl, rfl, rfl⟩
theorem tiOk14 : TIok Tryz.prog 14 ti14 := ⟨by kernel_rfl, by kernel_rfl, rfl, rfl⟩
theorem tiOk15 : TIok Tryz.prog 15 ti15 := ⟨by kernel_rfl, by kernel_rfl, rfl, rfl⟩
theorem tiOk16 : TIok Tryz.prog 16 ti16 := ⟨by kernel_rfl, by kernel_rfl, rfl, rfl⟩
theorem tiOk17 : TIok Tryz.prog 17 ti17 := ⟨by kernel_rfl, by kernel_rfl, rfl, rfl⟩
theorem tiOk18 : TIok Tryz.prog 18 ti18 := ⟨by kernel_rfl, by kernel_rfl, rfl, rfl⟩
theorem tiOk19 : TIok Tryz.prog 19 ti19 := ⟨by kernel_rfl, by kernel_rfl, rfl, rfl⟩
theorem tiOk20 : TIok Tryz.prog 20 ti20 := ⟨by kernel_rfl, by kernel_rfl, rfl, rfl⟩
theorem tiOk21 : TIok Tryz.prog 21 ti21 := ⟨by kernel_rfl, by kernel_rfl, rfl, rfl⟩
theorem tiOk22 : TIok Tryz.prog 22 ti22 := ⟨by kernel_rfl, by kernel_rfl, rfl, rfl⟩
theorem tiOk23 : TIok Tryz.prog 23 ti23 := ⟨by kernel_rfl, by kernel_rfl, rfl, rfl⟩
theorem tiOk24 : TIok Tryz.prog 24 ti24 := ⟨by kernel_rfl, by kernel_rfl, rfl, rfl⟩
theorem tiOk25 : TIok Tryz.prog 25 ti25 := ⟨by kernel_rfl, by kernel_rfl, rfl, rfl⟩
theorem tiOk27 : TIok Tryz.prog 27 ti27 := ⟨by kernel_rfl, by kernel_rfl, rfl, rfl⟩
theorem tiOk28 : TIok Tryz.prog 28 ti28 := ⟨by kernel_rfl, by kernel_rfl, rfl, rfl⟩
theorem tiOk29 : TIok Tryz.prog 29 ti29 := ⟨by kernel_rfl, by kernel_rfl, rfl, rfl⟩
theorem tiOk31 : TIok Tryz.prog 31 ti31 := ⟨by kernel_rfl, by kernel_rfl, rfl, rfl⟩
theorem tiOk32 : TIok Tryz.prog 32 ti32 := ⟨by kernel_rfl, by kernel_rfl, rfl, rfl⟩
theorem tiOk33 : TIok Tryz.prog 33 ti33 := ⟨by kernel_rfl, by kernel_rfl, rfl, rfl⟩
theorem tiOk34 : TIok Tryz.prog 34 ti34 := ⟨by kernel_rfl, by kernel_rfl, rfl, rfl⟩
theorem tiOk35 : TIok Tryz.prog 35 ti35 := ⟨by kernel_rfl, by kernel_rfl, rfl, rfl⟩
theorem tiOk36 : TIok Tryz.prog 36 ti36 := ⟨by kernel_rfl, by kernel_rfl, rfl, rfl⟩
theorem tiOk37 : TIok Tryz.prog 37 ti37 := ⟨by kernel_rfl, by kernel_rfl, rfl, rfl⟩
theorem tiOk38 : TIok Tryz.prog 38 ti38 := ⟨by kernel_rfl, by kernel_rfl, rfl, rfl⟩
theorem tiOk39 : TIok Tryz.prog 39 ti39 := ⟨by kernel_rfl, by kernel_rfl, rfl, rfl⟩
theorem tiOk40 : TIok Tryz.prog 40 ti40 := ⟨by kernel_rfl, by kernel_rfl, rfl, rfl⟩
theorem tiOk41 : TIok Tryz.prog 41 ti41 := ⟨by kernel_rfl, by kernel_rfl, rfl, rfl⟩
theorem tiOk43 : TIok Tryz.prog 43 ti43 := ⟨by kernel_rfl, by kernel_rfl, rfl, rfl⟩
theorem tiOk44 : TIok Tryz.prog 44 ti44 := ⟨by kernel_rfl, by kernel_rfl, rfl, rfl⟩
theorem tiOk45 : TIok Tryz.prog 45 ti45 := ⟨by kernel_rfl, by kernel_rfl, rfl, rfl⟩
theorem tiOk46 : TIok Tryz.prog 46 ti46 := ⟨by kernel_rfl, by kernel_rfl, rfl, rfl⟩
theorem tiOk47 : TIok Tryz.prog 47 ti47 := ⟨by kernel_rfl, by kernel_rfl, rfl, rfl⟩
theorem tiOk48 : TIok Tryz.prog 48 ti48 := ⟨by kernel_rfl, by kernel_rfl, rfl, rfl⟩
theorem tiOk49 : TIok Tryz.prog 49 ti49 := ⟨by kernel_rfl, by kernel_rfl, rfl, rfl⟩
theorem tiOk51 : TIok Tryz.prog 51 ti51 := ⟨by kernel_rfl, by kernel_rfl, rfl, rfl⟩
theorem tiOk53 : TIok Tryz.prog 53 ti53 := ⟨by kernel_rfl, by kernel_rfl, rfl, rfl⟩
theorem tiOk54 : TIok Tryz.prog 54 ti54 := ⟨by kernel_rfl, by kernel_rfl, rfl, rfl⟩
theorem tiOk55 : TIok Tryz.prog 55 ti55 := ⟨by kernel_rfl, by kernel_rfl, rfl, rfl⟩
theorem tiOk56 : TIok Tryz.prog 56 ti56 := ⟨by kernel_rfl, by kernel_rfl, rfl, rfl⟩
theorem tiOk57 : TIok Tryz.prog 57 ti57 := ⟨by kernel_rfl, by kernel_rfl, rfl, rfl⟩
theorem tiOk58 : TIok Tryz.prog 58 ti58 := ⟨by kernel_rfl, by kernel_rfl, rfl, rfl⟩
theorem tiOk59 : TIok Tryz.prog 59 ti59 := ⟨by kernel_rfl, by kernel_rfl, rfl, rfl⟩
theorem tiOk60 : TIok Tryz.prog 60 ti60 := ⟨by kernel_rfl, by kernel_rfl, rfl, rfl⟩
theorem tiOk61 : TIok Tryz.prog 61 ti61 := ⟨by kernel_rfl, by kernel_rfl, rfl, rfl⟩
theorem tiOk62 : TIok Tryz.prog 62 ti62 := ⟨by kernel_rfl, by kernel_rfl, rfl, rfl⟩
theorem tiOk64 : TIok Tryz.prog 64 ti64 := ⟨by kernel_rfl, by kernel_rfl, rfl, rfl⟩
theorem tiOk65 : TIok Tryz.prog 65 ti65 := ⟨by kernel_rfl, by kernel_rfl, rfl, rfl⟩
theorem tiOk67 : TIok Tryz.prog 67 ti67 := ⟨by kernel_rfl, by kernel_rfl, rfl, rfl⟩
theorem tiOk68 : TIok Tryz.prog 68 ti68 := ⟨by kernel_rfl, by kernel_rfl, rfl, rfl⟩
theorem tiOk69 : TIok Tryz.prog 69 ti69 := ⟨by kernel_rfl, by kernel_rfl, rfl, rfl⟩
theorem tiOk70 : TIok Tryz.prog 70 ti70 := ⟨by kernel_rfl, by kernel_rfl, rfl, rfl⟩
theorem tiOk71 : TIok Tryz.prog 71 ti71 := ⟨by kernel_rfl, by kernel_rfl, rfl, rfl⟩
theorem tiOk72 : TIok Tryz.prog 72 ti72 := ⟨by kernel_rfl, by kernel_rfl, rfl, rfl⟩
theorem tiOk73 : TIok Tryz.prog 73 ti73 := ⟨by kernel_rfl, by kernel_rfl, rfl, rfl⟩
theorem tiOk74 : TIok Tryz.prog 74 ti74 := ⟨by kernel_rfl, by kernel_rfl, rfl, rfl⟩
theorem tiOk75 : TIok Tryz.prog 75 ti75 := ⟨by kernel_rfl, by kernel_rfl, rfl, rfl⟩
theorem tiOk76 : TIok Tryz.prog 76 ti76 := ⟨by kernel_rfl, by kernel_rfl, rfl, rfl⟩
theorem tiOk77 : TIok Tryz.prog 77 ti77 := ⟨by kernel_rfl, by kernel_rfl, rfl, rfl⟩
theorem tiOk78 : TIok Tryz.prog 78 ti78 := ⟨by kernel_rfl, by kernel_rfl, rfl, rfl⟩
theorem tiOk80 : TIok Tryz.prog 80 ti80 := ⟨by kernel_rfl, by kernel_rfl, rfl, rfl⟩
theorem tiOk81 : TIok Tryz.prog 81 ti81 := ⟨by kernel_rfl, by kernel_rfl, rfl, rfl⟩
theorem tiOk82 : TIok Tryz.prog 82 ti82 := ⟨by kernel_rfl, by kernel_rfl, rfl, rfl⟩
theorem tiOk83 : TIok Tryz.prog 83 ti83 := ⟨by kernel_rfl, by kernel_rfl, rfl, rfl⟩
theorem tiOk84 : TIok Tryz.prog 84 ti84 := ⟨by kernel_rfl, by kernel_rfl, rfl, rfl⟩
theorem tiOk85 : TIok Tryz.prog 85 ti85 := ⟨by kernel_rfl, by kernel_rfl, rfl, rfl⟩
theorem tiOk86 : TIok Tryz.prog 86 ti86 := ⟨by kernel_rfl, by kernel_rfl, rfl, rfl⟩
theorem tiOk87 : TIok Tryz.prog 87 ti87 := ⟨by kernel_rfl, by kernel_rfl, rfl, rfl⟩
theorem tiOk88 : TIok Tryz.prog 88 ti88 := ⟨by kernel_rfl, by kernel_rfl, rfl, rfl⟩
theorem tiOk89 : TIok Tryz.prog 89 ti89 := ⟨by kernel_rfl, by kernel_rfl, rfl, rfl⟩
theorem tiOk91 : TIok Tryz.prog 91 ti91 := ⟨by kernel_rfl, by kernel_rfl, rfl, rfl⟩
theorem tiOk92 : TIok Tryz.prog 92 ti92 := ⟨by kernel_rfl, by kernel_rfl, rfl, rfl⟩
theorem tiOk93 : TIok Tryz.prog 93 ti93 := ⟨by kernel_rfl, by kernel_rfl, rfl, rfl⟩
theorem tiOk94 : TIok Tryz.prog 94 ti94 := ⟨by kernel_rfl, by kernel_rfl, rfl, rfl⟩
theorem tiOk96 : TIok Tryz.prog 96 ti96 := ⟨by kernel_rfl, by kernel_rfl, rfl, rfl⟩
theorem tiOk97 : TIok Tryz.prog 97 ti97 := ⟨by kernel_rfl, by kernel_rfl, rfl, rfl⟩
theorem tiOk98 : TIok Tryz.prog 98 ti98 := ⟨by kernel_rfl, by kernel_rfl, rfl, rfl⟩
theorem tiOk99 : TIok Tryz.prog 99 ti99 := ⟨by kernel_rfl, by kernel_rfl, rfl, rfl⟩
theorem tiOk100 : TIok Tryz.prog 100 ti100 := ⟨by kernel_rfl, by kernel_rfl, rfl, rfl⟩
theorem tiOk101 : TIok Tryz.prog 101 ti101 := ⟨by kernel_rfl, by kernel_rfl, rfl, rfl⟩
theorem tiOk102 : TIok Tryz.prog 102 ti102 := ⟨by kernel_rfl, by kernel_rfl, rfl, rfl⟩
theorem tiOk103 : TIok Tryz.prog 103 ti103 := ⟨by kernel_rfl, by kernel_rfl, rfl, rfl⟩
theorem tiOk104 : TIok Tryz.prog 104 ti104 := ⟨by kernel_rfl, by kernel_rfl, rfl, rfl⟩
theorem tiOk105 : TIok Tryz.prog 105 ti105 := ⟨by kernel_rfl, by kernel_rfl, rfl, rfl⟩
theorem tiOk106 : TIok Tryz.prog 106 ti106 := ⟨by kernel_rfl, by kernel_rfl, rfl, rfl⟩
theorem tiOk107 : TIok Tryz.prog 107 ti107 := ⟨by kernel_rfl, by kernel_rfl, rfl, rfl⟩
theorem tiOk108 : TIok Tryz.prog 108 ti108 := ⟨by kernel_rfl, by kernel_rfl, rfl, rfl⟩
theorem tiOk109 : TIok Tryz.prog 109 ti109 := ⟨by kernel_rfl, by kernel_rfl, rfl, rfl⟩
theorem tiOk110 : TIok Tryz.prog 110 ti110 := ⟨by kernel_rfl, by kernel_rfl, rfl, rfl⟩
theorem tiOk111 : TIok Tryz.prog 111 ti111 := ⟨by kernel_rfl, by kernel_rfl, rfl, rfl⟩
theorem tiOk112 : TIok Tryz.prog 112 ti112 := ⟨by kernel_rfl, by kernel_rfl, rfl, rfl⟩
theorem tiOk113 : TIok Tryz.prog 113 ti113 := ⟨by kernel_rfl, by kernel_rfl, rfl, rfl⟩
theorem tiOk114 : TIok Tryz.prog 114 ti114 := ⟨by kernel_rfl, by kernel_rfl, rfl, rfl⟩
theorem tiOk115 : TIok Tryz.prog 115 ti115 := ⟨by kernel_rfl, by kernel_rfl, rfl, rfl⟩
theorem tiOk116 : TIok Tryz.prog 116 ti116 := ⟨by kernel_rfl, by kernel_rfl, rfl, rfl⟩
theorem tiOk117 : TIok Tryz.prog 117 ti117 := ⟨by kernel_rfl, by kernel_rfl, rfl, rfl⟩
theorem tiOk118 : TIok Tryz.prog 118 ti118 := ⟨by kernel_rfl, by kernel_rfl, rfl, rfl⟩
theorem tiOk119 : TIok Tryz.prog 119 ti119 := ⟨by kernel_rfl, by kernel_rfl, rfl, rfl⟩
theorem tiOk120 : TIok Tryz.prog 120 ti120 := ⟨by kernel_rfl, by kernel_rfl, rfl, rfl⟩
theorem tiOk121 : TIok Tryz.prog 121 ti121 := ⟨by kernel_rfl, by kernel_rfl, rfl, rfl⟩
theorem tiOk122 : TIok Tryz.prog 122 ti122 := ⟨by kernel_rfl, by kernel_rfl, rfl, rfl⟩
theorem tiOk123 : TIok Tryz.prog 123 ti123 := ⟨by kernel_rfl, by kernel_rfl, rfl, rfl⟩
theorem tiOk124 : TIok Tryz.prog 124 ti124 := ⟨by kernel_rfl, by kernel_rfl, rfl, rfl⟩
theorem tiOk125 : TIok Tryz.prog 125 ti125 := ⟨by kernel_rfl, by kernel_rfl, rfl, rfl⟩
theorem tiOk126 : TIok Tryz.prog 126 ti126 := ⟨by kernel_rfl, by kernel_rfl, rfl, rfl⟩
theorem tiOk127 : TIok Tryz.prog 127 ti127 := ⟨by kernel_rfl, by kernel_rfl, rfl, rfl⟩
theorem tiOk128 : TIok Tryz.prog 128 ti128 := ⟨by kernel_rfl, by kernel_rfl, rfl, rfl⟩
theorem tiOk129 : TIok Tryz.prog 129 ti129 := ⟨by kernel_rfl, by kernel_rfl, rfl, rfl⟩
theorem tiOk130 : TIok Tryz.prog 130 ti130 := ⟨by kernel_rfl, by kernel_rfl, rfl, rfl⟩
theorem tiOk131 : TIok Tryz.prog 131 ti131 := ⟨by kernel_rfl, by kernel_rfl, rfl, rfl⟩
theorem tiOk133 : TIok Tryz.prog 133 ti133 := ⟨by kernel_rfl, by kernel_rfl, rfl, rfl⟩
theorem tiOk134 : TIok Tryz.prog 134 ti134 := ⟨by kernel_rfl, by kernel_rfl, rfl, rfl⟩
theorem tiOk135 : TIok Tryz.prog 135 ti135 := ⟨by kernel_rfl, by kernel_rfl, rfl, rfl⟩
theorem tiOk136 : TIok Tryz.prog 136 ti136 := ⟨by kernel_rfl, by kernel_rfl, rfl, rfl⟩
theorem tiOk137 : TIok Tryz.prog 137 ti137 := ⟨by kernel_rfl, by kernel_rfl, rfl, rfl⟩
theorem tiOk138 : TIok Tryz.prog 138 ti138 := ⟨by kernel_rfl, by kernel_rfl, rfl, rfl⟩
theorem tiOk139 : TIok Tryz.prog 139 ti139 := ⟨by kernel_rfl, by kernel_rfl, rfl, rfl⟩
theorem tiOk140 : TIok Tryz.prog 140 ti140 := ⟨by kernel_rfl, by kernel_rfl, rfl, rfl⟩
theorem tiOk141 : TIok Tryz.prog 141 ti141 := ⟨by kernel_rfl, by kernel_rfl, rfl, rfl⟩
theorem tiOk143 : TIok Tryz.prog 143 ti143 := ⟨by kernel_rfl, by kernel_rfl, rfl, rfl⟩
theorem tiOk144 : TIok Tryz.prog 144 ti144 := ⟨by kernel_rfl, by kernel_rfl, rfl, rfl⟩
theorem tiOk145 : TIok Tryz.prog 145 ti145 := ⟨by kernel_rfl, by kernel_rfl, rfl, rfl⟩
theorem tiOk146 : TIok Tryz.prog 146 ti146 := ⟨by kernel_rfl, by kernel_rfl, rfl, rfl⟩
theorem tiOk147 : TIok Tryz.prog 147 ti147 := ⟨by kernel_rfl, by kernel_rfl, rfl, rfl⟩
theorem tiOk148 : TIok Tryz.prog 148 ti148 := ⟨by kernel_rfl, by kernel_rfl, rfl, rfl⟩
theorem tiOk149 : TIok Tryz.prog 149 ti149 := ⟨by kernel_rfl, by kernel_rfl, rfl, rfl⟩
theorem tiOk151 : TIok Tryz.prog 151 ti151 := ⟨by kernel_rfl, by kernel_rfl, rfl, rfl⟩
theorem tiOk152 : TIok Tryz.prog 152 ti152 := ⟨by kernel_rfl, by kernel_rfl, rfl, rfl⟩
theorem tiOk153 : TIok Tryz.prog 153 ti153 := ⟨by kernel_rfl, by kernel_rfl, rfl, rfl⟩
theorem tiOk154 : TIok Tryz.prog 154 ti154 := ⟨by kernel_rfl, by kernel_rfl, rfl, rfl⟩
theorem tiOk155 : TIok Tryz.prog 155 ti155 := ⟨by kernel_rfl, by kernel_rfl, rfl, rfl⟩
theorem tiOk156 : TIok Tryz.prog 156 ti156 := ⟨by kernel_rfl, by kernel_rfl, rfl, rfl⟩
theorem tiOk157 : TIok Tryz.prog 157 ti157 := ⟨by kernel_rfl, by kernel_rfl, rfl, rfl⟩
theorem tiOk158 : TIok Tryz.prog 158 ti158 := ⟨by kernel_rfl, by kernel_rfl, rfl, rfl⟩
theorem tiOk159 : TIok Tryz.prog 159 ti159 := ⟨by kernel_rfl, by kernel_rfl, rfl, rfl⟩
theorem tiOk161 : TIok Tryz.prog 161 ti161 := ⟨by kernel_rfl, by kernel_rfl, rfl, rfl⟩
theorem tiOk162 : TIok Tryz.prog 162 ti162 := ⟨by kernel_rfl, by kernel_rfl, rfl, rfl⟩
theorem tiOk163 : TIok Tryz.prog 163 ti163 := ⟨by kernel_rfl, by kernel_rfl, rfl, rfl⟩
theorem tiOk164 : TIok Tryz.prog 164 ti164 := ⟨by kernel_rfl, by kernel_rfl, rfl, rfl⟩
theorem tiOk165 : TIok Tryz.prog 165 ti165 := ⟨by kernel_rfl, by kernel_rfl, rfl, rfl⟩
theorem tiOk166 : TIok Tryz.prog 166 ti166 := ⟨by kernel_rfl, by kernel_rfl, rfl, rfl⟩
theorem tiOk167 : TIok Tryz.prog 167 ti167 := ⟨by kernel_rfl, by kernel_rfl, rfl, rfl⟩
theorem tiOk168 : TIok Tryz.prog 168 ti168 := ⟨by kernel_rfl, by kernel_rfl, rfl, rfl⟩
theorem tiOk170 : TIok Tryz.prog 170 ti170 := ⟨by kernel_rfl, by kernel_rfl, rfl, rfl⟩
theorem tiOk171 : TIok Tryz.prog 171 ti171 := ⟨by kernel_rfl, by kernel_rfl, rfl, rfl⟩
theorem tiOk172 : TIok Tryz.prog 172 ti172 := ⟨by kernel_rfl, by kernel_rfl, rfl, rfl⟩
theorem tiOk174 : TIok Tryz.prog 174 ti174 := ⟨by kernel_rfl, by kernel_rfl, rfl, rfl⟩
theorem tiOk176 : TIok Tryz.prog 176 ti176 := ⟨by kernel_rfl, by kernel_rfl, rfl, rfl⟩
theorem tiOk177 : TIok Tryz.prog 177 ti177 := ⟨by kernel_rfl, by kernel_rfl, rfl, rfl⟩
theorem tiOk178 : TIok Tryz.prog 178 ti178 := ⟨by kernel_rfl, by kernel_rfl, rfl, rfl⟩
theorem tiOk179 : TIok Tryz.prog 179 ti179 := ⟨by kernel_rfl, by kernel_rfl, rfl, rfl⟩
theorem tiOk180 : TIok Tryz.prog 180 ti180 := ⟨by kernel_rfl, by kernel_rfl, rfl, rfl⟩
theorem tiOk181 : TIok Tryz.prog 181 ti181 := ⟨by kernel_rfl, by kernel_rfl, rfl, rfl⟩
theorem tiOk182 : TIok Tryz.prog 182 ti182 := ⟨by kernel_rfl, by kernel_rfl, rfl, rfl⟩
theorem tiOk183 : TIok Tryz.prog 183 ti183 := ⟨by kernel_rfl, by kernel_rfl, rfl, rfl⟩
theorem tiOk184 : TIok Tryz.prog 184 ti184 := ⟨by kernel_rfl, by kernel_rfl, rfl, rfl⟩
theorem tiOk185 : TIok Tryz.prog 185 ti185 := ⟨by kernel_rfl, by kernel_rfl, rfl, rfl⟩
theorem tiOk187 : TIok Tryz.prog 187 ti187 := ⟨by kernel_rfl, by kernel_rfl, rfl, rfl⟩
theorem tiOk188 : TIok Tryz.prog 188 ti188 := ⟨by kernel_rfl, by kernel_rfl, rfl, rfl⟩
theorem tiOk189 : TIok Tryz.prog 189 ti189 := ⟨by kernel_rfl, by kernel_rfl, rfl, rfl⟩
theorem tiOk190 : TIok Tryz.prog 190 ti190 := ⟨by kernel_rfl, by kernel_rfl, rfl, rfl⟩
theorem tiOk191 : TIok Tryz.prog 191 ti191 := ⟨by kernel_rfl, by kernel_rfl, rfl, rfl⟩
theorem tiOk193 : TIok Tryz.prog 193 ti193 := ⟨by kernel_rfl, by kernel_rfl, rfl, rfl⟩
theorem tiOk194 : TIok Tryz.prog 194 ti194 := ⟨by kernel_rfl, by kernel_rfl, rfl, rfl⟩
theorem tiOk195 : TIok Tryz.prog 195 ti195 := ⟨by kernel_rfl, by kernel_rfl, rfl, rfl⟩
theorem tiOk196 : TIok Tryz.prog 196 ti196 := ⟨by kernel_rfl, by kernel_rfl, rfl, rfl⟩
theorem tiOk197 : TIok Tryz.prog 197 ti197 := ⟨by kernel_rfl, by kernel_rfl, rfl, rfl⟩
theorem tiOk198 : TIok Tryz.prog 198 ti198 := ⟨by kernel_rfl, by kernel_rfl, rfl, rfl⟩
theorem tiOk199 : TIok Tryz.prog 199 ti199 := ⟨by kernel_rfl, by kernel_rfl, rfl, rfl⟩
theorem tiOk200 : TIok Tryz.prog 200 ti200 := ⟨by kernel_rfl, by kernel_rfl, rfl, rfl⟩
theorem tiOk201 : TIok Tryz.prog 201 ti201 := ⟨by kernel_rfl, by kernel_rfl, rfl, rfl⟩
theorem tiOk202 : TIok Tryz.prog 202 ti202 := ⟨by kernel_rfl, by kernel_rfl, rfl, rfl⟩
theorem tiOk203 : TIok Tryz.prog 203 ti203 := ⟨by kernel_rfl, by kernel_rfl, rfl, rfl⟩
theorem tiOk204 : TIok Tryz.prog 204 ti204 := ⟨by kernel_rfl, by kernel_rfl, rfl, rfl⟩
theorem tiOk205 : TIok Tryz.prog 205 ti205 := ⟨by kernel_rfl, by kernel_rfl, rfl, rfl⟩
theorem tiOk206 : TIok Tryz.prog 206 ti206 := ⟨by kernel_rfl, by kernel_rfl, rfl, rfl⟩
theorem tiOk207 : TIok Tryz.prog 207 ti207 := ⟨by kernel_rfl, by kernel_rfl, rfl, rfl⟩
theorem tiOk208 : TIok Tryz.prog 208 ti208 := ⟨by kernel_rfl, by kernel_rfl, rfl, rfl⟩
theorem tiOk210 : TIok Tryz.prog 210 ti210 := ⟨by kernel_rfl, by kernel_rfl, rfl, rfl⟩
theorem tiOk211 : TIok Tryz.prog 211 ti211 := ⟨by kernel_rfl, by kernel_rfl, rfl, rfl⟩
theorem tiOk212 : TIok Tryz.prog 212 ti212 := ⟨by kernel_rfl, by kernel_rfl, rfl, rfl⟩
theorem tiOk213 : TIok Tryz.prog 213 ti213 := ⟨by kernel_rfl, by kernel_rfl, rfl, rfl⟩
theorem tiOk215 : TIok Tryz.prog 215 ti215 := ⟨by kernel_rfl, by kernel_rfl, rfl, rfl⟩
theorem tiOk216 : TIok Tryz.prog 216 ti216 := ⟨by kernel_rfl, by kernel_rfl, rfl, rfl⟩
theorem tiOk217 : TIok Tryz.prog 217 ti217 := ⟨by kernel_rfl, by kernel_rfl, rfl, rfl⟩
theorem tiOk218 : TIok Tryz.prog 218 ti218 := ⟨by kernel_rfl, by kernel_rfl, rfl, rfl⟩
theorem tiOk219 : TIok Tryz.prog 219 ti219 := ⟨by kernel_rfl, by kernel_rfl, rfl, rfl⟩
theorem tiOk220 : TIok Tryz.prog 220 ti220 := ⟨by kernel_rfl, by kernel_rfl, rfl, rfl⟩
theorem tiOk221 : TIok Tryz.prog 221 ti221 := ⟨by kernel_rfl, by kernel_rfl, rfl, rfl⟩
theorem tiOk223 : TIok Tryz.prog 223 ti223 := ⟨by kernel_rfl, by kernel_rfl, rfl, rfl⟩
theorem tiOk224 : TIok Tryz.prog 224 ti224 := ⟨by kernel_rfl, by kernel_rfl, rfl, rfl⟩
theorem tiOk225 : TIok Tryz.prog 225 ti225 := ⟨by kernel_rfl, by kernel_rfl, rfl, rfl⟩
theorem tiOk226 : TIok Tryz.prog 226 ti226 := ⟨by kernel_rfl, by kernel_rfl, rfl, rfl⟩
theorem tiOk227 : TIok Tryz.prog 227 ti227 := ⟨by kernel_rfl, by kernel_rfl, rfl, rfl⟩
theorem tiOk228 : TIok Tryz.prog 228 ti228 := ⟨by kernel_rfl, by kernel_rfl, rfl, rfl⟩
theorem tiOk229 : TIok Tryz.prog 229 ti229 := ⟨by kernel_rfl, by kernel_rfl, rfl, rfl⟩
theorem tiOk230 : TIok Tryz.prog 230 ti230 := ⟨by kernel_rfl, by kernel_rfl, rfl, rfl⟩
theorem tiOk231 : TIok Tryz.prog 231 ti231 := ⟨by kernel_rfl, by kernel_rfl, rfl, rfl⟩
theorem tiOk232 : TIok Tryz.prog 232 ti232 := ⟨by kernel_rfl, by kernel_rfl, rfl, rfl⟩
theorem tiOk233 : TIok Tryz.prog 233 ti233 := ⟨by kernel_rfl, by kernel_rfl, rfl, rfl⟩
theorem tiOk234 : TIok Tryz.prog 234 ti234 := ⟨by kernel_rfl, by kernel_rfl, rfl, rfl⟩
theorem tiOk235 : TIok Tryz.prog 235 ti235 := ⟨by kernel_rfl, by kernel_rfl, rfl, rfl⟩
theorem tiOk236 : TIok Tryz.prog 236 ti236 := ⟨by kernel_rfl, by kernel_rfl, rfl, rfl⟩
theorem tiOk237 : TIok Tryz.prog 237 ti237 := ⟨by kernel_rfl, by kernel_rfl, rfl, rfl⟩
theorem tiOk238 : TIok Tryz.prog 238 ti238 := ⟨by kernel_rfl, by kernel_rfl, rfl, rfl⟩
theorem tiOk239 : TIok Tryz.prog 239 ti239 := ⟨by kernel_rfl, by kernel_rfl, rfl, rfl⟩
theorem tiOk240 : TIok Tryz.prog 240 ti240 := ⟨by kernel_rfl, by kernel_rfl, rfl, rfl⟩
theorem tiOk241 : TIok Tryz.prog 241 ti241 := ⟨by kernel_rfl, by kernel_rfl, rfl, rfl⟩
theorem tiOk242 : TIok Tryz.prog 242 ti242 := ⟨by kernel_rfl, by kernel_rfl, rfl, rfl⟩
theorem tiOk243 : TIok Tryz.prog 243 ti243 := ⟨by kernel_rfl, by kernel_rfl, rfl, rfl⟩
theorem tiOk244 : TIok Tryz.prog 244 ti244 := ⟨by kernel_rfl, by kernel_rfl, rfl, rfl⟩
theorem tiOk245 : TIok Tryz.prog 245 ti245 := ⟨by kernel_rfl, by kernel_rfl, rfl, rfl⟩
theorem tiOk246 : TIok Tryz.prog 246 ti246 := ⟨by kernel_rfl, by kernel_rfl, rfl, rfl⟩
theorem tiOk247 : TIok Tryz.prog 247 ti247 := ⟨by kernel_rfl, by kernel_rfl, rfl, rfl⟩
theorem tiOk248 : TIok Tryz.prog 248 ti248 := ⟨by kernel_rfl, by kernel_rfl, rfl, rfl⟩
theorem tiOk249 : TIok Tryz.prog 249 ti249 := ⟨by kernel_rfl, by kernel_rfl, rfl, rfl⟩
theorem tiOk250 : TIok Tryz.prog 250 ti250 := ⟨by kernel_rfl, by kernel_rfl, rfl, rfl⟩
theorem tiOk251 : TIok Tryz.prog 251 ti251 := ⟨by kernel_rfl, by kernel_rfl, rfl, rfl⟩
theorem tiOk252 : TIok Tryz.prog 252 ti252 := ⟨by kernel_rfl, by kernel_rfl, rfl, rfl⟩
theorem tiOk253 : TIok Tryz.prog 253 ti253 := ⟨by kernel_rfl, by kernel_rfl, rfl, rfl⟩
theorem tiOk254 : TIok Tryz.prog 254 ti254 := ⟨by kernel_rfl, by kernel_rfl, rfl, rfl⟩
theorem tiOk255 : TIok Tryz.prog 255 ti255 := ⟨by kernel_rfl, by kernel_rfl, rfl, rfl⟩
theorem tiOk256 : TIok Tryz.prog 256 ti256 := ⟨by kernel_rfl, by kernel_rfl, rfl, rfl⟩
theorem tiOk257 : TIok Tryz.prog 257 ti257 := ⟨by kernel_rfl, by kernel_rfl, rfl, rfl⟩
theorem tiOk258 : TIok Tryz.prog 258 ti258 := ⟨by kernel_rfl, by kernel_rfl, rfl, rfl⟩
theorem tiOk259 : TIok Tryz.prog 259 ti259 := ⟨by kernel_rfl, by kernel_rfl, rfl, rfl⟩
theorem tiOk260 : TIok Tryz.prog 260 ti260 := ⟨by kernel_rfl, by kernel_rfl, rfl, rfl⟩
def Tt (t : TypeId) : TI :=
  bif Nat.blt t 130 then
   bif Nat.blt t 67 then
    bif Nat.blt t 32 then
     bif Nat.blt t 15 then
      bif Nat.blt t 8 then
       bif Nat.blt t 4 then
        bif Nat.blt t 2 then
         leafT 1 ti1 t
        else
         bif Nat.blt t 3 then
          leafT 2 ti2 t
         else
          leafT 3 ti3 t
       else
        bif Nat.blt t 6 then
         bif Nat.blt t 5 then
          leafT 4 ti4 t
         else
          leafT 5 ti5 t
        else
         bif Nat.blt t 7 then
          leafT 6 ti6 t
         else
          leafT 7 ti7 t
      else
       bif Nat.blt t 11 then
        bif Nat.blt t 9 then
         leafT 8 ti8 t
        else
         bif Nat.blt t 10 then
          leafT 9 ti9 t
         else
          leafT 10 ti10 t
       else
        bif Nat.blt t 13 then
         bif Nat.blt t 12 then
          leafT 11 ti11 t
         else
          leafT 12 ti12 t
        else
         bif Nat.blt t 14 then
          leafT 13 ti13 t
         else
          leafT 14 ti14 t
     else
      bif Nat.blt t 22 then
       bif Nat.blt t 18 then
        bif Nat.blt t 16 then
         leafT 15 ti15 t
        else
         bif Nat.blt t 17 then
          leafT 16 ti16 t
         else
          leafT 17 ti17 t
       else
        bif Nat.blt t 20 then
         bif Nat.blt t 19 then
          leafT 18 ti18 t
         else
          leafT 19 ti19 t
        else
         bif Nat.blt t 21 then
          leafT 20 ti20 t
         else
          leafT 21 ti21 t
      else
       bif Nat.blt t 27 then
        bif Nat.blt t 24 then
         bif Nat.blt t 23 then
          leafT 22 ti22 t
         else
          leafT 23 ti23 t
        else
         bif Nat.blt t 25 then
          leafT 24 ti24 t
         else
          leafT 25 ti25 t
       else
        bif Nat.blt t 29 then
         bif Nat.blt t 28 then
          leafT 27 ti27 t
         else
          leafT 28 ti28 t
        else
         bif Nat.blt t 31 then
          leafT 29 ti29 t
         else
          leafT 31 ti31 t
    else
     bif Nat.blt t 48 then
      bif Nat.blt t 39 then
       bif Nat.blt t 35 then
        bif Nat.blt t 33 then
         leafT 32 ti32 t
        else
         bif Nat.blt t 34 then
          leafT 33 ti33 t
         else
          leafT 34 ti34 t
       else
        bif Nat.blt t 37 then
         bif Nat.blt t 36 then
          leafT 35 ti35 t
         else
          leafT 36 ti36 t
        else
         bif Nat.blt t 38 then
          leafT 37 ti37 t
         else
          leafT 38 ti38 t
      else
       bif Nat.blt t 44 then
        bif Nat.blt t 41 then
         bif Nat.blt t 40 then
          leafT 39 ti39 t
         else
          leafT 40 ti40 t
        else
         bif Nat.blt t 43 then
          leafT 41 ti41 t
         else
          leafT 43 ti43 t
       else
        bif Nat.blt t 46 then
         bif Nat.blt t 45 then
          leafT 44 ti44 t
         else
          leafT 45 ti45 t
        else
         bif Nat.blt t 47 then
          leafT 46 ti46 t
         else
          leafT 47 ti47 t
     else
      bif Nat.blt t 57 then
       bif Nat.blt t 53 then
        bif Nat.blt t 49 then
         leafT 48 ti48 t
        else
         bif Nat.blt t 51 then
          leafT 49 ti49 t
         else
          leafT 51 ti51 t
       else
        bif Nat.blt t 55 then
         bif Nat.blt t 54 then
          leafT 53 ti53 t
         else
          leafT 54 ti54 t
        else
         bif Nat.blt t 56 then
          leafT 55 ti55 t
         else
          leafT 56 ti56 t
      else
       bif Nat.blt t 61 then
        bif Nat.blt t 59 then
         bif Nat.blt t 58 then
          leafT 57 ti57 t
         else
          leafT 58 ti58 t
        else
         bif Nat.blt t 60 then
          leafT 59 ti59 t
         else
          leafT 60 ti60 t
       else
        bif Nat.blt t 64 then
         bif Nat.blt t 62 then
          leafT 61 ti61 t
         else
          leafT 62 ti62 t
        else
         bif Nat.blt t 65 then
          leafT 64 ti64 t
         else
          leafT 65 ti65 t
   else
    bif Nat.blt t 100 then
     bif Nat.blt t 83 then
      bif Nat.blt t 74 then
       bif Nat.blt t 70 then
        bif Nat.blt t 68 then
         leafT 67 ti67 t
        else
         bif Nat.blt t 69 then
          leafT 68 ti68 t
         else
          leafT 69 ti69 t
       else
        bif Nat.blt t 72 then
         bif Nat.blt t 71 then
          leafT 70 ti70 t
         else
          leafT 71 ti71 t
        else
         bif Nat.blt t 73 then
          leafT 72 ti72 t
         else
          leafT 73 ti73 t
      else
       bif Nat.blt t 78 then
        bif Nat.blt t 76 then
         bif Nat.blt t 75 then
          leafT 74 ti74 t
         else
          leafT 75 ti75 t
        else
         bif Nat.blt t 77 then
          leafT 76 ti76 t
         else
          leafT 77 ti77 t
       else
        bif Nat.blt t 81 then
         bif Nat.blt t 80 then
          leafT 78 ti78 t
         else
          leafT 80 ti80 t
        else
         bif Nat.blt t 82 then
          leafT 81 ti81 t
         else
          leafT 82 ti82 t
     else
      bif Nat.blt t 91 then
       bif Nat.blt t 86 then
        bif Nat.blt t 84 then
         leafT 83 ti83 t
        else
         bif Nat.blt t 85 then
          leafT 84 ti84 t
         else
          leafT 85 ti85 t
       else
        bif Nat.blt t 88 then
         bif Nat.blt t 87 then
          leafT 86 ti86 t
         else
          leafT 87 ti87 t
        else
         bif Nat.blt t 89 then
          leafT 88 ti88 t
         else
          leafT 89 ti89 t
      else
       bif Nat.blt t 96 then
        bif Nat.blt t 93 then
         bif Nat.blt t 92 then
          leafT 91 ti91 t
         else
          leafT 92 ti92 t
        else
         bif Nat.blt t 94 then
          leafT 93 ti93 t
         else
          leafT 94 ti94 t
       else
        bif Nat.blt t 98 then
         bif Nat.blt t 97 then
          leafT 96 ti96 t
         else
          leafT 97 ti97 t
        else
         bif Nat.blt t 99 then
          leafT 98 ti98 t
         else
          leafT 99 ti99 t
    else
     bif Nat.blt t 115 then
      bif Nat.blt t 107 then
       bif Nat.blt t 103 then
        bif Nat.blt t 101 then
         leafT 100 ti100 t
        else
         bif Nat.blt t 102 then
          leafT 101 ti101 t
         else
          leafT 102 ti102 t
       else
        bif Nat.blt t 105 then
         bif Nat.blt t 104 then
          leafT 103 ti103 t
         else
          leafT 104 ti104 t
        else
         bif Nat.blt t 106 then
          leafT 105 ti105 t
         else
          leafT 106 ti106 t
      else
       bif Nat.blt t 111 then
        bif Nat.blt t 109 then
         bif Nat.blt t 108 then
          leafT 107 ti107 t
         else
          leafT 108 ti108 t
        else
         bif Nat.blt t 110 then
          leafT 109 ti109 t
         else
          leafT 110 ti110 t
       else
        bif Nat.blt t 113 then
         bif Nat.blt t 112 then
          leafT 111 ti111 t
         else
          leafT 112 ti112 t
        else
         bif Nat.blt t 114 then
          leafT 113 ti113 t
         else
          leafT 114 ti114 t
     else
      bif Nat.blt t 122 then
       bif Nat.blt t 118 then
        bif Nat.blt t 116 then
         leafT 115 ti115 t
        else
         bif Nat.blt t 117 then
          leafT 116 ti116 t
         else
          leafT 117 ti117 t
       else
        bif Nat.blt t 120 then
         bif Nat.blt t 119 then
          leafT 118 ti118 t
         else
          leafT 119 ti119 t
        else
         bif Nat.blt t 121 then
          leafT 120 ti120 t
         else
          leafT 121 ti121 t
      else
       bif Nat.blt t 126 then
        bif Nat.blt t 124 then
         bif Nat.blt t 123 then
          leafT 122 ti122 t
         else
          leafT 123 ti123 t
        else
         bif Nat.blt t 125 then
          leafT 124 ti124 t
         else
          leafT 125 ti125 t
       else
        bif Nat.blt t 128 then
         bif Nat.blt t 127 then
          leafT 126 ti126 t
         else
          leafT 127 ti127 t
        else
         bif Nat.blt t 129 then
          leafT 128 ti128 t
         else
          leafT 129 ti129 t
  else
   bif Nat.blt t 198 then
    bif Nat.blt t 163 then
     bif Nat.blt t 146 then
      bif Nat.blt t 138 then
       bif Nat.blt t 134 then
        bif Nat.blt t 131 then
         leafT 130 ti130 t
        else
         bif Nat.blt t 133 then
          leafT 131 ti131 t
         else
          leafT 133 ti133 t
       else
        bif Nat.blt t 136 then
         bif Nat.blt t 135 then
          leafT 134 ti134 t
         else
          leafT 135 ti135 t
        else
         bif Nat.blt t 137 then
          leafT 136 ti136 t
         else
          leafT 137 ti137 t
      else
       bif Nat.blt t 141 then
        bif Nat.blt t 139 then
         leafT 138 ti138 t
        else
         bif Nat.blt t 140 then
          leafT 139 ti139 t
         else
          leafT 140 ti140 t
       else
        bif Nat.blt t 144 then
         bif Nat.blt t 143 then
          leafT 141 ti141 t
         else
          leafT 143 ti143 t
        else
         bif Nat.blt t 145 then
          leafT 144 ti144 t
         else
          leafT 145 ti145 t
     else
      bif Nat.blt t 154 then
       bif Nat.blt t 149 then
        bif Nat.blt t 147 then
         leafT 146 ti146 t
        else
         bif Nat.blt t 148 then
          leafT 147 ti147 t
         else
          leafT 148 ti148 t
       else
        bif Nat.blt t 152 then
         bif Nat.blt t 151 then
          leafT 149 ti149 t
         else
          leafT 151 ti151 t
        else
         bif Nat.blt t 153 then
          leafT 152 ti152 t
         else
          leafT 153 ti153 t
      else
       bif Nat.blt t 158 then
        bif Nat.blt t 156 then
         bif Nat.blt t 155 then
          leafT 154 ti154 t
         else
          leafT 155 ti155 t
        else
         bif Nat.blt t 157 then
          leafT 156 ti156 t
         else
          leafT 157 ti157 t
       else
        bif Nat.blt t 161 then
         bif Nat.blt t 159 then
          leafT 158 ti158 t
         else
          leafT 159 ti159 t
        else
         bif Nat.blt t 162 then
          leafT 161 ti161 t
         else
          leafT 162 ti162 t
    else
     bif Nat.blt t 181 then
      bif Nat.blt t 171 then
       bif Nat.blt t 166 then
        bif Nat.blt t 164 then
         leafT 163 ti163 t
        else
         bif Nat.blt t 165 then
          leafT 164 ti164 t
         else
          leafT 165 ti165 t
       else
        bif Nat.blt t 168 then
         bif Nat.blt t 167 then
          leafT 166 ti166 t
         else
          leafT 167 ti167 t
        else
         bif Nat.blt t 170 then
          leafT 168 ti168 t
         else
          leafT 170 ti170 t
      else
       bif Nat.blt t 177 then
        bif Nat.blt t 174 then
         bif Nat.blt t 172 then
          leafT 171 ti171 t
         else
          leafT 172 ti172 t
        else
         bif Nat.blt t 176 then
          leafT 174 ti174 t
         else
          leafT 176 ti176 t
       else
        bif Nat.blt t 179 then
         bif Nat.blt t 178 then
          leafT 177 ti177 t
         else
          leafT 178 ti178 t
        else
         bif Nat.blt t 180 then
          leafT 179 ti179 t
         else
          leafT 180 ti180 t
     else
      bif Nat.blt t 189 then
       bif Nat.blt t 184 then
        bif Nat.blt t 182 then
         leafT 181 ti181 t
        else
         bif Nat.blt t 183 then
          leafT 182 ti182 t
         else
          leafT 183 ti183 t
       else
        bif Nat.blt t 187 then
         bif Nat.blt t 185 then
          leafT 184 ti184 t
         else
          leafT 185 ti185 t
        else
         bif Nat.blt t 188 then
          leafT 187 ti187 t
         else
          leafT 188 ti188 t
      else
       bif Nat.blt t 194 then
        bif Nat.blt t 191 then
         bif Nat.blt t 190 then
          leafT 189 ti189 t
         else
          leafT 190 ti190 t
        else
         bif Nat.blt t 193 then
          leafT 191 ti191 t
         else
          leafT 193 ti193 t
       else
        bif Nat.blt t 196 then
         bif Nat.blt t 195 then
          leafT 194 ti194 t
         else
          leafT 195 ti195 t
        else
         bif Nat.blt t 197 then
          leafT 196 ti196 t
         else
          leafT 197 ti197 t
   else
    bif Nat.blt t 231 then
     bif Nat.blt t 215 then
      bif Nat.blt t 205 then
       bif Nat.blt t 201 then
        bif Nat.blt t 199 then
         leafT 198 ti198 t
        else
         bif Nat.blt t 200 then
          leafT 199 ti199 t
         else
          leafT 200 ti200 t
       else
        bif Nat.blt t 203 then
         bif Nat.blt t 202 then
          leafT 201 ti201 t
         else
          leafT 202 ti202 t
        else
         bif Nat.blt t 204 then
          leafT 203 ti203 t
         else
          leafT 204 ti204 t
      else
       bif Nat.blt t 210 then
        bif Nat.blt t 207 then
         bif Nat.blt t 206 then
          leafT 205 ti205 t
         else
          leafT 206 ti206 t
        else
         bif Nat.blt t 208 then
          leafT 207 ti207 t
         else
          leafT 208 ti208 t
       else
        bif Nat.blt t 212 then
         bif Nat.blt t 211 then
          leafT 210 ti210 t
         else
          leafT 211 ti211 t
        else
         bif Nat.blt t 213 then
          leafT 212 ti212 t
         else
          leafT 213 ti213 t
     else
      bif Nat.blt t 223 then
       bif Nat.blt t 218 then
        bif Nat.blt t 216 then
         leafT 215 ti215 t
        else
         bif Nat.blt t 217 then
          leafT 216 ti216 t
         else
          leafT 217 ti217 t
       else
        bif Nat.blt t 220 then
         bif Nat.blt t 219 then
          leafT 218 ti218 t
         else
          leafT 219 ti219 t
        else
         bif Nat.blt t 221 then
          leafT 220 ti220 t
         else
          leafT 221 ti221 t
      else
       bif Nat.blt t 227 then
        bif Nat.blt t 225 then
         bif Nat.blt t 224 then
          leafT 223 ti223 t
         else
          leafT 224 ti224 t
        else
         bif Nat.blt t 226 then
          leafT 225 ti225 t
         else
          leafT 226 ti226 t
       else
        bif Nat.blt t 229 then
         bif Nat.blt t 228 then
          leafT 227 ti227 t
         else
          leafT 228 ti228 t
        else
         bif Nat.blt t 230 then
          leafT 229 ti229 t
         else
          leafT 230 ti230 t
    else
     bif Nat.blt t 246 then
      bif Nat.blt t 238 then
       bif Nat.blt t 234 then
        bif Nat.blt t 232 then
         leafT 231 ti231 t
        else
         bif Nat.blt t 233 then
          leafT 232 ti232 t
         else
          leafT 233 ti233 t
       else
        bif Nat.blt t 236 then
         bif Nat.blt t 235 then
          leafT 234 ti234 t
         else
          leafT 235 ti235 t
        else
         bif Nat.blt t 237 then
          leafT 236 ti236 t
         else
          leafT 237 ti237 t
      else
       bif Nat.blt t 242 then
        bif Nat.blt t 240 then
         bif Nat.blt t 239 then
          leafT 238 ti238 t
         else
          leafT 239 ti239 t
        else
         bif Nat.blt t 241 then
          leafT 240 ti240 t
         else
          leafT 241 ti241 t
       else
        bif Nat.blt t 244 then
         bif Nat.blt t 243 then
          leafT 242 ti242 t
         else
          leafT 243 ti243 t
        else
         bif Nat.blt t 245 then
          leafT 244 ti244 t
         else
          leafT 245 ti245 t
     else
      bif Nat.blt t 253 then
       bif Nat.blt t 249 then
        bif Nat.blt t 247 then
         leafT 246 ti246 t
        else
         bif Nat.blt t 248 then
          leafT 247 ti247 t
         else
          leafT 248 ti248 t
       else
        bif Nat.blt t 251 then
         bif Nat.blt t 250 then
          leafT 249 ti249 t
         else
          leafT 250 ti250 t
        else
         bif Nat.blt t 252 then
          leafT 251 ti251 t
         else
          leafT 252 ti252 t
      else
       bif Nat.blt t 257 then
        bif Nat.blt t 255 then
         bif Nat.blt t 254 then
          leafT 253 ti253 t
         else
          leafT 254 ti254 t
        else
         bif Nat.blt t 256 then
          leafT 255 ti255 t
         else
          leafT 256 ti256 t
       else
        bif Nat.blt t 259 then
         bif Nat.blt t 258 then
          leafT 257 ti257 t
         else
          leafT 258 ti258 t
        else
         bif Nat.blt t 260 then
          leafT 259 ti259 t
         else
          leafT 260 ti260 t
theorem Tt_ok (t : TypeId) : TIok Tryz.prog t (Tt t) ∨ Tt t = TI.none :=
  (nodeT_ok (nodeT_ok (nodeT_ok (nodeT_ok (nodeT_ok (nodeT_ok (nodeT_ok (leafT_ok tiOk1 t) (nodeT_ok (leafT_ok tiOk2 t) (leafT_ok tiOk3 t))) (nodeT_ok (nodeT_ok (leafT_ok tiOk4 t) (leafT_ok tiOk5 t)) (nodeT_ok (leafT_ok tiOk6 t) (leafT_ok tiOk7 t)))) (nodeT_ok (nodeT_ok (leafT_ok tiOk8 t) (nodeT_ok (leafT_ok tiOk9 t) (leafT_ok tiOk10 t))) (nodeT_ok (nodeT_ok (leafT_ok tiOk11 t) (leafT_ok tiOk12 t)) (nodeT_ok (leafT_ok tiOk13 t) (leafT_ok tiOk14 t))))) (nodeT_ok (nodeT_ok (nodeT_ok (leafT_ok tiOk15 t) (nodeT_ok (leafT_ok tiOk16 t) (leafT_ok tiOk17 t))) (nodeT_ok (nodeT_ok (leafT_ok tiOk18 t) (leafT_ok tiOk19 t)) (nodeT_ok (leafT_ok tiOk20 t) (leafT_ok tiOk21 t)))) (nodeT_ok (nodeT_ok (nodeT_ok (leafT_ok tiOk22 t) (leafT_ok tiOk23 t)) (nodeT_ok (leafT_ok tiOk24 t) (leafT_ok tiOk25 t))) (nodeT_ok (nodeT_ok (leafT_ok tiOk27 t) (leafT_ok tiOk28 t)) (nodeT_ok (leafT_ok tiOk29 t) (leafT_ok tiOk31 t)))))) (nodeT_ok (nodeT_ok (nodeT_ok (nodeT_ok (leafT_ok tiOk32 t) (nodeT_ok (leafT_ok tiOk33 t) (leafT_ok tiOk34 t))) (nodeT_ok (nodeT_ok (leafT_ok tiOk35 t) (leafT_ok tiOk36 t)) (nodeT_ok (leafT_ok tiOk37 t) (leafT_ok tiOk38 t)))) (nodeT_ok (nodeT_ok (nodeT_ok (leafT_ok tiOk39 t) (leafT_ok tiOk40 t)) (nodeT_ok (leafT_ok tiOk41 t) (leafT_ok tiOk43 t))) (nodeT_ok (nodeT_ok (leafT_ok tiOk44 t) (leafT_ok tiOk45 t)) (nodeT_ok (leafT_ok tiOk46 t) (leafT_ok tiOk47 t))))) (nodeT_ok (nodeT_ok (nodeT_ok (leafT_ok tiOk48 t) (nodeT_ok (leafT_ok tiOk49 t) (leafT_ok tiOk51 t))) (nodeT_ok (nodeT_ok (leafT_ok tiOk53 t) (leafT_ok tiOk54 t)) (nodeT_ok (leafT_ok tiOk55 t) (leafT_ok tiOk56 t)))) (nodeT_ok (nodeT_ok (nodeT_ok (leafT_ok tiOk57 t) (leafT_ok tiOk58 t)) (nodeT_ok (leafT_ok tiOk59 t) (leafT_ok tiOk60 t))) (nodeT_ok (nodeT_ok (leafT_ok tiOk61 t) (leafT_ok tiOk62 t)) (nodeT_ok (leafT_ok tiOk64 t) (leafT_ok tiOk65 t))))))) (nodeT_ok (nodeT_ok (nodeT_ok (nodeT_ok (nodeT_ok (leafT_ok tiOk67 t) (nodeT_ok (leafT_ok tiOk68 t) (leafT_ok tiOk69 t))) (nodeT_ok (nodeT_ok (leafT_ok tiOk70 t) (leafT_ok tiOk71 t)) (nodeT_ok (leafT_ok tiOk72 t) (leafT_ok tiOk73 t)))) (nodeT_ok (nodeT_ok (nodeT_ok (leafT_ok tiOk74 t) (leafT_ok tiOk75 t)) (nodeT_ok (leafT_ok tiOk76 t) (leafT_ok tiOk77 t))) (nodeT_ok (nodeT_ok (leafT_ok tiOk78 t) (leafT_ok tiOk80 t)) (nodeT_ok (leafT_ok tiOk81 t) (leafT_ok tiOk82 t))))) (nodeT_ok (nodeT_ok (nodeT_ok (leafT_ok tiOk83 t) (nodeT_ok (leafT_ok tiOk84 t) (leafT_ok tiOk85 t))) (nodeT_ok (nodeT_ok (leafT_ok tiOk86 t) (leafT_ok tiOk87 t)) (nodeT_ok (leafT_ok tiOk88 t) (leafT_ok tiOk89 t)))) (nodeT_ok (nodeT_ok (nodeT_ok (leafT_ok tiOk91 t) (leafT_ok tiOk92 t)) (nodeT_ok (leafT_ok tiOk93 t) (leafT_ok tiOk94 t))) (nodeT_ok (nodeT_ok (leafT_ok tiOk96 t) (leafT_ok tiOk97 t)) (nodeT_ok (leafT_ok tiOk98 t) (leafT_ok tiOk99 t)))))) (nodeT_ok (nodeT_ok (nodeT_ok (nodeT_ok (leafT_ok tiOk100 t) (nodeT_ok (leafT_ok tiOk101 t) (leafT_ok tiOk102 t))) (nodeT_ok (nodeT_ok (leafT_ok tiOk103 t) (leafT_ok tiOk104 t)) (nodeT_ok (leafT_ok tiOk105 t) (leafT_ok tiOk106 t)))) (nodeT_ok (nodeT_ok (nodeT_ok (leafT_ok tiOk107 t) (leafT_ok tiOk108 t)) (nodeT_ok (leafT_ok tiOk109 t) (leafT_ok tiOk110 t))) (nodeT_ok (nodeT_ok (leafT_ok tiOk111 t) (leafT_ok tiOk112 t)) (nodeT_ok (leafT_ok tiOk113 t) (leafT_ok tiOk114 t))))) (nodeT_ok (nodeT_ok (nodeT_ok (leafT_ok tiOk115 t) (nodeT_ok (leafT_ok tiOk116 t) (leafT_ok tiOk117 t))) (nodeT_ok (nodeT_ok (leafT_ok tiOk118 t) (leafT_ok tiOk119 t)) (nodeT_ok (leafT_ok tiOk120 t) (leafT_ok tiOk121 t)))) (nodeT_ok (nodeT_ok (nodeT_ok (leafT_ok tiOk122 t) (leafT_ok tiOk123 t)) (nodeT_ok (leafT_ok tiOk124 t) (leafT_ok tiOk125 t))) (nodeT_ok (nodeT_ok (leafT_ok tiOk126 t) (leafT_ok tiOk127 t)) (nodeT_ok (leafT_ok tiOk128 t) (leafT_ok tiOk129 t)))))))) (nodeT_ok (nodeT_ok (nodeT_ok (nodeT_ok (nodeT_ok (nodeT_ok (leafT_ok tiOk130 t) (nodeT_ok (leafT_ok tiOk131 t) (leafT_ok tiOk133 t))) (nodeT_ok (nodeT_ok (leafT_ok tiOk134 t) (leafT_ok tiOk135 t)) (nodeT_ok (leafT_ok tiOk136 t) (leafT_ok tiOk137 t)))) (nodeT_ok (nodeT_ok (leafT_ok tiOk138 t) (nodeT_ok (leafT_ok tiOk139 t) (leafT_ok tiOk140 t))) (nodeT_ok (nodeT_ok (leafT_ok tiOk141 t) (leafT_ok tiOk143 t)) (nodeT_ok (leafT_ok tiOk144 t) (leafT_ok tiOk145 t))))) (nodeT_ok (nodeT_ok (nodeT_ok (leafT_ok tiOk146 t) (nodeT_ok (leafT_ok tiOk147 t) (leafT_ok tiOk148 t))) (nodeT_ok (nodeT_ok (leafT_ok tiOk149 t) (leafT_ok tiOk151 t)) (nodeT_ok (leafT_ok tiOk152 t) (leafT_ok tiOk153 t)))) (nodeT_ok (nodeT_ok (nodeT_ok (leafT_ok tiOk154 t) (leafT_ok tiOk155 t)) (nodeT_ok (leafT_ok tiOk156 t) (leafT_ok tiOk157 t))) (nodeT_ok (nodeT_ok (leafT_ok tiOk158 t) (leafT_ok tiOk159 t)) (nodeT_ok (leafT_ok tiOk161 t) (leafT_ok tiOk162 t)))))) (nodeT_ok (nodeT_ok (nodeT_ok (nodeT_ok (leafT_ok tiOk163 t) (nodeT_ok (leafT_ok tiOk164 t) (leafT_ok tiOk165 t))) (nodeT_ok (nodeT_ok (leafT_ok tiOk166 t) (leafT_ok tiOk167 t)) (nodeT_ok (leafT_ok tiOk168 t) (leafT_ok tiOk170 t)))) (nodeT_ok (nodeT_ok (nodeT_ok (leafT_ok tiOk171 t) (leafT_ok tiOk172 t)) (nodeT_ok (leafT_ok tiOk174 t) (leafT_ok tiOk176 t))) (nodeT_ok (nodeT_ok (leafT_ok tiOk177 t) (leafT_ok tiOk178 t)) (nodeT_ok (leafT_ok tiOk179 t) (leafT_ok tiOk180 t))))) (nodeT_ok (nodeT_ok (nodeT_ok (leafT_ok tiOk181 t) (nodeT_ok (leafT_ok tiOk182 t) (leafT_ok tiOk183 t))) (nodeT_ok (nodeT_ok (leafT_ok tiOk184 t) (leafT_ok tiOk185 t)) (nodeT_ok (leafT_ok tiOk187 t) (leafT_ok tiOk188 t)))) (nodeT_ok (nodeT_ok (nodeT_ok (leafT_ok tiOk189 t) (leafT_ok tiOk190 t)) (nodeT_ok (leafT_ok tiOk191 t) (leafT_ok tiOk193 t))) (nodeT_ok (nodeT_ok (leafT_ok tiOk194 t) (leafT_ok tiOk195 t)) (nodeT_ok (leafT_ok tiOk196 t) (leafT_ok tiOk197 t))))))) (nodeT_ok (nodeT_ok (nodeT_ok (nodeT_ok (nodeT_ok (leafT_ok tiOk198 t) (nodeT_ok (leafT_ok tiOk199 t) (leafT_ok tiOk200 t))) (nodeT_ok (nodeT_ok (leafT_ok tiOk201 t) (leafT_ok tiOk202 t)) (nodeT_ok (leafT_ok tiOk203 t) (leafT_ok tiOk204 t)))) (nodeT_ok (nodeT_ok (nodeT_ok (leafT_ok tiOk205 t) (leafT_ok tiOk206 t)) (nodeT_ok (leafT_ok tiOk207 t) (leafT_ok tiOk208 t))) (nodeT_ok (nodeT_ok (leafT_ok tiOk210 t) (leafT_ok tiOk211 t)) (nodeT_ok (leafT_ok tiOk212 t) (leafT_ok tiOk213 t))))) (nodeT_ok (nodeT_ok (nodeT_ok (leafT_ok tiOk215 t) (nodeT_ok (leafT_ok tiOk216 t) (leafT_ok tiOk217 t))) (nodeT_ok (nodeT_ok (leafT_ok tiOk218 t) (leafT_ok tiOk219 t)) (nodeT_ok (leafT_ok tiOk220 t) (leafT_ok tiOk221 t)))) (nodeT_ok (nodeT_ok (nodeT_ok (leafT_ok tiOk223 t) (leafT_ok tiOk224 t)) (nodeT_ok (leafT_ok tiOk225 t) (leafT_ok tiOk226 t))) (nodeT_ok (nodeT_ok (leafT_ok tiOk227 t) (leafT_ok tiOk228 t)) (nodeT_ok (leafT_ok tiOk229 t) (leafT_ok tiOk230 t)))))) (nodeT_ok (nodeT_ok (nodeT_ok (nodeT_ok (leafT_ok tiOk231 t) (nodeT_ok (leafT_ok tiOk232 t) (leafT_ok tiOk233 t))) (nodeT_ok (nodeT_ok (leafT_ok tiOk234 t) (leafT_ok tiOk235 t)) (nodeT_ok (leafT_ok tiOk236 t) (leafT_ok tiOk237 t)))) (nodeT_ok (nodeT_ok (nodeT_ok (leafT_ok tiOk238 t) (leafT_ok tiOk239 t)) (nodeT_ok (leafT_ok tiOk240 t) (leafT_ok tiOk241 t))) (nodeT_ok (nodeT_ok (leafT_ok tiOk242 t) (leafT_ok tiOk243 t)) (nodeT_ok (leafT_ok tiOk244 t) (leafT_ok tiOk245 t))))) (nodeT_ok (nodeT_ok (nodeT_ok (leafT_ok tiOk246 t) (nodeT_ok (leafT_ok tiOk247 t) (leafT_ok tiOk248 t))) (nodeT_ok (nodeT_ok (leafT_ok tiOk249 t) (leafT_ok tiOk250 t)) (nodeT_ok (leafT_ok tiOk251 t) (leafT_ok tiOk252 t)))) (nodeT_ok (nodeT_ok (nodeT_ok (leafT_ok tiOk253 t) (leafT_ok tiOk254 t)) (nodeT_ok (leafT_ok tiOk255 t) (leafT_ok tiOk256 t))) (nodeT_ok (nodeT_ok (leafT_ok tiOk257 t) (leafT_ok tiOk258 t)) (nodeT_ok (leafT_ok tiOk259 t) (leafT_ok tiOk260 t)))))))))
theorem eqOk29 : EqOkB Tryz.prog 29 = true := by kernel_rfl
theorem eqOk57 : EqOkB Tryz.prog 57 = true := by kernel_rfl
theorem eqOk59 : EqOkB Tryz.prog 59 = true := by kernel_rfl
theorem eqOk62 : EqOkB Tryz.prog 62 = true := by kernel_rfl
theorem eqOk73 : EqOkB Tryz.prog 73 = true := by kernel_rfl
def Et (t : TypeId) : Bool := [29, 57, 59, 62, 73].any (Nat.beq t)
theorem Et_ok (t : TypeId) (h : Et t = true) : EqOkB Tryz.prog t = true := by
  obtain ⟨x, hx, he⟩ := List.any_eq_true.1 h
  have := Nat.eq_of_beq_eq_true he
  subst this
  simp only [List.mem_cons, List.not_mem_nil, or_false] at hx
  rcases hx with rfl | rfl | rfl | rfl | rfl
  · exact eqOk29
  · exact eqOk57
  · exact eqOk59
  · exact eqOk62
  · exact eqOk73
end Go.Proofs.YtdlgedpmbeafdaaGreatDoor.Aw

set_option linter.unusedVariables false
namespace Go.Proofs.YtdlgedpmbeafdaaGreatDoor.Aw
open Go Go.RowKit

theorem wrap_i64 {n : Int} (h0 : -9223372036854775808 ≤ n) (h1 : n ≤ 9223372036854775807) : IntKind.i64.wrap n = n := by
  rw [IntKind.wrap_i64]; omega
theorem wrap_nat {i : Nat} (h : i + 1 ≤ 9223372036854775807) : IntKind.i64.wrap ((i : Int) + 1) = ((i + 1 : Nat) : Int) := by
  rw [wrap_i64 (by omega) (by omega)]; omega
theorem St.le_none {S S' : St} (h : St.le S S') {b : Nat} (hb : S' b = none) : S b = none := by
  cases e : S b with
  | none => rfl
  | some o => rw [h b o e] at hb; cases hb
theorem St.le_del {S S' : St} (h : St.le S S') {b : Nat} (hb : S b = none) : St.le S (S'.del b) := fun x o e => by
  have : x ≠ b := fun hx => by rw [hx, hb] at e; cases e
  rw [St.del_ne _ _ _ this]; exact h x o e
theorem St.le_upd' {S S' : St} (h : St.le S S') {b : Nat} (hb : S' b = none) (o : Own) : St.le S (S'.upd b o) := St.le_upd h (St.le_none h hb) o
theorem St.del_upd {S : St} {b : Nat} (h : S b = none) {o : Own} : (S.upd b o).del b = S := by
  funext x
  by_cases hx : x = b
  · subst hx; rw [St.del_same]; exact h.symm
  · rw [St.del_ne _ _ _ hx, St.upd_ne _ _ _ _ hx]
theorem St.le_upd2 {S S' : St} (h : St.le S S') (b : Nat) (o : Own) : St.le (S.upd b o) (S'.upd b o) := fun x p e => by
  by_cases hx : x = b
  · subst hx; rw [St.upd_same] at e ⊢; exact e
  · rw [St.upd_ne _ _ _ _ hx] at e ⊢; exact h x p e
theorem St.upd_comm {S : St} {b c : Nat} (h : b ≠ c) (o p : Own) : (S.upd b o).upd c p = (S.upd c p).upd b o := by
  funext x
  simp only [St.upd]
  by_cases h1 : x = c
  · subst h1; simp [Ne.symm h]
  · simp [h1]
theorem St.upd_self {S : St} {b : Nat} {o : Own} (h : S b = some o) : S.upd b o = S := by
  funext x
  simp only [St.upd]
  split
  · rename_i e; subst e; exact h.symm
  · rfl
/-- A list that a loop appends to: nil, or of the loop's own memory. -/
structure AccOk (S S₁ : St) (e : TypeId) (k b n : Nat) : Prop where
  le : St.le S S₁
  tip : 0 < n → S₁ b = some (.tip e k n)
  new : 0 < n → S b = none
theorem AccOk.init (S : St) (e : TypeId) (k b : Nat) : AccOk S S e k b 0 := ⟨St.le_refl S, by omega, by omega⟩
theorem AccOk.init' {S S₁ : St} (h : St.le S S₁) (e : TypeId) (k b : Nat) : AccOk S S₁ e k b 0 := ⟨h, by omega, by omega⟩
theorem AccOk.push {S S₁ S₂ : St} {e : TypeId} {k b n m : Nat} (h : AccOk S S₁ e k b n) {es : List (List AV)} (hn : es.length = n) (k1 : es = [] → S₂ = S₁) (k2 : es ≠ [] → S₂ = S₁.del b) {b' : Nat} (hb : S₂ b' = none) {o : Own} (ho : o = .tip e k m) :
    AccOk S (S₂.upd b' o) e k b' m := by
  subst ho
  have hle : St.le S S₂ := by
    by_cases he : es = []
    · rw [k1 he]; exact h.le
    · rw [k2 he]; exact St.le_del h.le (h.new (by rw [← hn]; exact List.length_pos_iff.2 he))
  exact ⟨St.le_upd' hle hb _, fun _ => St.upd_same _ _ _, fun _ => St.le_none hle hb⟩

mutual
theorem AV.leS_refl (S S' : St) : ∀ x, AV.leS S S' x x
  | .sl sh k es => by unfold AV.leS; split <;> simp_all [Sh.mayNil]
  | .nils => by unfold AV.leS; rfl
  | .ref b o => by unfold AV.leS; rfl
  | .ifc t x => by unfold AV.leS; exact ⟨rfl, AV.leS_refl S S' x⟩
  | .tu xs => by unfold AV.leS; exact AV.leSL_refl S S' xs
  | .ag xs => by unfold AV.leS; exact AV.leSL_refl S S' xs
  | .int _ _ => by unfold AV.leS; rfl
  | .bool _ => by unfold AV.leS; rfl
  | .str _ => by unfold AV.leS; rfl
  | .nilp => by unfold AV.leS; rfl
  | .imm _ => by unfold AV.leS; rfl
  | .arr _ _ _ _ => by unfold AV.leS; rfl
  | .nilf => by unfold AV.leS; rfl
  | .fn _ _ _ => by unfold AV.leS; rfl
  | .nili => by unfold AV.leS; rfl
  | .nilm => by unfold AV.leS; rfl
  | .mp _ => by unfold AV.leS; rfl
  | .raw _ => by unfold AV.leS; rfl
  | .top => by unfold AV.leS; trivial
theorem AV.leSL_refl (S S' : St) : ∀ xs, AV.leSL S S' xs xs
  | [] => by unfold AV.leSL; rfl
  | x :: xs => by unfold AV.leSL; exact ⟨AV.leS_refl S S' x, AV.leSL_refl S S' xs⟩
end
section
variable {P : Program} {C : Cx}
theorem Adv.of_below {w w' : World} {S : St} (hg : Inv w S) (h : Below w.heap.size w w') : Adv w S w' S := by
  have hb : ∀ b, b < w.heap.size → w'.heap[b]? = w.heap[b]? := fun b hb => h.block b hb
  exact ⟨h.os, h.tape, h.output, h.size, fun b hlt hn => ⟨hn, hb b hlt⟩, fun b off hlt hr => ⟨hr, cell_of_block (hb b hlt) off⟩, fun b e n hs => by rw [shape_of_block (hb b (shape_lt hs))]; exact hs⟩
theorem Good.of_below {w w' : World} {S : St} (hg : Good C w S) (h : Below w.heap.size w w') : Good C w' S := by
  have hadv := Adv.of_below hg.1 h
  exact hg.mk (fun b o ho => OwnOk.mono hadv (h.block b (hg.1.lt ho)) (hg.1 b o ho)) hadv
/-- A contract of the kit's shelf, in these words: the store is as it was. -/
theorem Triple.of_calls {f : FuncId} {fn : Func} {c : Code} (hf : P.funcs[f]? = some fn) (hb : fn.body = some c) (hname : (fn.name == "runtime.NumGoroutine") = false) {args : List AV} {S : St} {x : AV} {Q : Out → St → Prop}
    (h : ∀ (w : World) (vs : Array Value), Good C w S → RelL w (rdOf S) args vs.toList → Calls P f vs w fun e w' => ∃ v, e = .returned v ∧ Rel w' (rdOf S) x v ∧ Below w.heap.size w w') (hQ : Q (.ret x) S) : Triple P C f args S Q := by
  refine ⟨fun w vs _ hg hr => .inl ⟨?_, (h w vs hg hr).mono fun e w' he => ?_⟩⟩
  · have hno : ¬ fn.name = "runtime.NumGoroutine" := by simpa using hname
    simp [callFunc, hf, hno, hb]
  · obtain ⟨v, rfl, hv, hbel⟩ := he
    exact ⟨.ret x, S, hv, hg.of_below hbel, Adv.of_below hg.1 hbel, hQ⟩
/-- A function that the model answers at once. -/
theorem Triple.of_run {f : FuncId} {args : List AV} {S : St} {x : AV} {Q : Out → St → Prop}
    (h : ∀ (w : World) (vs : Array Value), Good C w S → RelL w (rdOf S) args vs.toList → ∃ v, (callFunc f vs).run P w = .ok (.value v) w ∧ Rel w (rdOf S) x v) (hQ : Q (.ret x) S) : Triple P C f args S Q :=
  ⟨fun w vs _ hg hr => by
    obtain ⟨v, h1, h2⟩ := h w vs hg hr
    exact .inr ⟨v, w, h1, .ret x, S, h2, hg, Adv.refl w S, hQ⟩⟩
theorem Triple.args {f : FuncId} {args args' : List AV} {S : St} {Q : Out → St → Prop} (h : Triple P C f args' S Q) (hle : leL args args') : Triple P C f args S Q :=
  ⟨fun w vs hY hg hr => h.out w vs hY hg (leL_sound hle hr)⟩
theorem Triple.use {f : FuncId} {args args' : List AV} {S : St} {Q Q' : Out → St → Prop} (h : Triple P C f args' S Q) (hle : leL args args') (hq : ∀ o S', Q o S' → Q' o S') : Triple P C f args S Q' := (Triple.args h hle).mono hq
theorem Triple.weakS {f : FuncId} {args : List AV} {S₀ S : St} {Q : Out → St → Prop} (h : Triple P C f args S₀ Q) (hw : St.leW S₀ S) : Triple P C f args S Q :=
  ⟨fun w vs hY hg hr => (h.out w vs (hY.mono (Adv.weakS hw (Adv.refl w _))) (hg.weakS hw) (by rw [St.leW_rd hw]; exact hr)).mono fun e w' ⟨o, S', h1, h2, h3, h4⟩ => ⟨o, S', h1, h2, Adv.weakS hw h3, h4⟩⟩
/-- A contract says less of its result: what it owns and doesn't tell is let go. -/
def Out.leS (S S' : St) : Out → Out → Prop
  | .ret x, .ret y => AV.leS S S' x y
  | .pan x, .pan y => AV.leS S S' x y
  | _, _ => False
theorem Triple.lessen {f : FuncId} {args : List AV} {S : St} {Q Q' : Out → St → Prop} (h : Triple P C f args S Q) (hq : ∀ o S', Q o S' → ∃ o' S'', Q' o' S'' ∧ St.le S'' S' ∧ Out.leS S' S'' o o') : Triple P C f args S Q' :=
  ⟨fun w vs hY hg hr => (h.out w vs hY hg hr).mono fun e w' ⟨o, S', h1, h2, h3, h4⟩ => by
    obtain ⟨o', S'', k1, k2, k3⟩ := hq o S' h4
    refine ⟨o', S'', ?_, h2.shrink k2, h3.trans (Adv.shrink k2), k1⟩
    cases o <;> cases o' <;> first | exact k3.elim | skip
    · cases e <;> first | exact h1.elim | exact AV.leS_sound h2.1 k2 _ _ _ k3 h1
    · cases e <;> first | exact h1.elim | skip
      obtain ⟨v, rfl, hv⟩ := h1
      exact ⟨v, rfl, AV.leS_sound h2.1 k2 _ _ _ k3 hv⟩⟩
end
theorem St.up {S : St} {b b₂ : Nat} {o p : Own} (h : S b₂ = none) (k : S b = some o) : (S.upd b₂ p) b = some o := (St.upd_ne _ _ _ _ (St.ne_of h k)).trans k
theorem St.ov {S : St} {b b₂ : Nat} {o p : Own} (h : b ≠ b₂) (k : S b = some o) : (S.upd b₂ p) b = some o := (St.upd_ne _ _ _ _ h).trans k
theorem St.no {S : St} {b b₂ : Nat} {p : Own} (h : (S.upd b₂ p) b = none) : S b = none := by
  by_cases e : b = b₂
  · subst e; rw [St.upd_same] at h; cases h
  · rwa [St.upd_ne _ _ _ _ e] at h
theorem St.ne_upd {S : St} {b b₂ : Nat} {p : Own} (h : (S.upd b₂ p) b = none) : b ≠ b₂ := fun e => by subst e; rw [St.upd_same] at h; cases h
/-- A row of statements: what stands behind the first one is hidden till it is over. -/
theorem awp_seq2 {P : Program} {C : Cx} {a b : Code} {env : Env} {S : St} {Q : AExit → Env → St → Prop} (h : ∀ K : AExit → Env → St → Prop, (∀ env' S', awp P C b env' S' Q → K .normal env' S') → (∀ e env' S', e ≠ .normal → Q e env' S' → K e env' S') → awp P C a env S K) : awp P C (.seq a b) env S Q := by
  unfold awp
  exact h _ (fun _ _ h => h) (fun e _ _ he h => by cases e <;> first | exact absurd rfl he | exact h)
theorem awp_cond {P : Program} {C : Cx} {t : Tmp} {x y : Code} {env : Env} {S : St} {Q : AExit → Env → St → Prop} {b : Bool} (h : look t env = .bool b) (ht : b = true → awp P C x ((t, .bool true) :: env) S Q) (hf : b = false → awp P C y ((t, .bool false) :: env) S Q) : awp P C (.cond (.tmp t) x y) env S Q := by
  unfold awp
  rw [h]
  exact split_of ht hf
/-- A contract of a function that calls no yield, within one that may. -/
theorem Triple.liftY {P : Program} {C : Cx} {y : Option YSpec} {f : FuncId} {args : List AV} {S : St} {Q : Out → St → Prop} (h : Triple P C.noY f args S Q) : Triple P ⟨C.T, C.G, C.E, y, false⟩ f args S Q :=
  ⟨fun w vs _ hg hr => h.out w vs (YOk.none rfl _ _) hg hr⟩
end Go.Proofs.YtdlgedpmbeafdaaGreatDoor.Aw

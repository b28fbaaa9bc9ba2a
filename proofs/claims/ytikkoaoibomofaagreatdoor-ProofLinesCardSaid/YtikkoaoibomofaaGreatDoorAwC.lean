/-
  The abstract walk is sound: small facts on values, types and worlds, and each operation. No condition.
-/
import Derived.Test.YtikkoaoibomofaaGreatDoorAwB
set_option linter.unusedVariables false
set_option linter.unusedSimpArgs false
namespace Go.Proofs.YtikkoaoibomofaaGreatDoor.Aw
open Go Go.RowKit

theorem force_eq (x : AV) (K : AV → Prop) : force x K = K x := by cases x <;> rfl
theorem forceL_eq (xs : List AV) (K : List AV → Prop) : forceL xs K = K xs := by
  induction xs generalizing K with
  | nil => rfl
  | cons x xs ih => simp only [forceL, force_eq, ih]
theorem forceR_eq (xs : List (List AV)) (K : List (List AV) → Prop) : forceR xs K = K xs := by
  induction xs generalizing K with
  | nil => rfl
  | cons x xs ih => simp only [forceR, forceL_eq, ih]
theorem when_iff (b : Bool) (K : Prop) : when b K ↔ b = true ∧ K := by cases b <;> simp [when]
theorem split_iff (b : Bool) (Kt Kf : Prop) : split b Kt Kf ↔ (b = true → Kt) ∧ (b = false → Kf) := by cases b <;> simp [split]
theorem split_of {b : Bool} {Kt Kf : Prop} (ht : b = true → Kt) (hf : b = false → Kf) : split b Kt Kf := (split_iff _ _ _).2 ⟨ht, hf⟩

/-! ### Types -/
section
variable {P : Program} {C : Cx}
theorem ty_info (hT : TyOk P C) {t : TypeId} (hk : known C t = true) :
    ∃ i d, P.info? t = some i ∧ i.size = (C.T t).size ∧ i.bytes = (C.T t).bytes ∧ i.zero = some (C.T t).zero ∧ P.underlying t = some d ∧ kindOf d = (C.T t).kind ∧
      (C.T t).zero.cells.size = (C.T t).size ∧ (C.T t).zero.cells.toList.all Value.oneCell' = true := by
  rcases hT.1 t with h | h
  · obtain ⟨h1, h2, h3, h4⟩ := h
    obtain ⟨i, hi, he⟩ := Option.map_eq_some_iff.1 h1
    obtain ⟨d, hd, hk⟩ := Option.map_eq_some_iff.1 h2
    simp only [Prod.mk.injEq] at he
    exact ⟨i, d, hi, he.1, he.2.1, he.2.2, hd, hk, h3, h4⟩
  · simp [known, h, TI.none] at hk
theorem known_of {t : TypeId} {k : TK} (h : (C.T t).kind = k) (hk : k ≠ .other) : known C t = true := by
  unfold known; rw [h]; cases k <;> simp_all
theorem und_slice (hT : TyOk P C) {t e : TypeId} (h : (C.T t).kind = .slice e) : P.underlying t = some (.slice e) := by
  obtain ⟨i, d, _, _, _, _, hd, hk, _⟩ := ty_info hT (known_of h (by simp))
  rw [h] at hk; rw [hd]; cases d <;> simp_all [kindOf]
theorem und_str (hT : TyOk P C) {t : TypeId} (h : (C.T t).kind = .str) : P.underlying t = some .string := by
  obtain ⟨i, d, _, _, _, _, hd, hk, _⟩ := ty_info hT (known_of h (by simp))
  rw [h] at hk; rw [hd]; cases d <;> simp_all [kindOf]
theorem und_int (hT : TyOk P C) {t : TypeId} {k : IntKind} (h : (C.T t).kind = .int k) : P.underlying t = some (.int k) := by
  obtain ⟨i, d, _, _, _, _, hd, hk, _⟩ := ty_info hT (known_of h (by simp))
  rw [h] at hk; rw [hd]; cases d <;> simp_all [kindOf]
theorem und_map (hT : TyOk P C) {t k e : TypeId} (h : (C.T t).kind = .map k e) : P.underlying t = some (.map k e) := by
  obtain ⟨i, d, _, _, _, _, hd, hk, _⟩ := ty_info hT (known_of h (by simp))
  rw [h] at hk; rw [hd]; cases d <;> simp_all [kindOf]
theorem und_struct (hT : TyOk P C) {t : TypeId} {fs : List (Nat × TypeId)} (h : (C.T t).kind = .strct fs) : ∃ fa, P.underlying t = some (.struct fa) ∧ fa.toList.map (fun f => (f.offset, f.type)) = fs := by
  obtain ⟨i, d, _, _, _, _, hd, hk, _⟩ := ty_info hT (known_of h (by simp))
  rw [h] at hk
  cases d <;> simp_all [kindOf]
theorem und_ptr (hT : TyOk P C) {t e : TypeId} (h : (C.T t).kind = .ptr e) : P.underlying t = some (.pointer e) := by
  obtain ⟨i, d, _, _, _, _, hd, hk, _⟩ := ty_info hT (known_of h (by simp))
  rw [h] at hk; rw [hd]; cases d <;> simp_all [kindOf]
theorem und_bool (hT : TyOk P C) {t : TypeId} (h : (C.T t).kind = .bool) : P.underlying t = some .bool := by
  obtain ⟨i, d, _, _, _, _, hd, hk, _⟩ := ty_info hT (known_of h (by simp))
  rw [h] at hk; rw [hd]; cases d <;> simp_all [kindOf]
theorem und_iface (hT : TyOk P C) {t : TypeId} {b : Bool} (h : (C.T t).kind = .iface b) : ∃ ms, P.underlying t = some (.interface ms) := by
  obtain ⟨i, d, _, _, _, _, hd, hk, _⟩ := ty_info hT (known_of h (by simp))
  rw [h] at hk; cases d <;> simp_all [kindOf]
theorem und_fn (hT : TyOk P C) {t : TypeId} (h : (C.T t).kind = .fn) : ∃ a b c, P.underlying t = some (.func a b c) := by
  obtain ⟨i, d, _, _, _, _, hd, hk, _⟩ := ty_info hT (known_of h (by simp))
  rw [h] at hk; cases d <;> simp_all [kindOf]
theorem run_size (hT : TyOk P C) {t : TypeId} (hk : known C t = true) (w : World) : (sizeOf t).run P w = .ok (C.T t).size w := by
  obtain ⟨i, d, hi, hs, _⟩ := ty_info hT hk
  simp [sizeOf, typeInfo, hi, hs]
theorem run_isAgg (hT : TyOk P C) {t : TypeId} (hk : known C t = true) (w : World) : (isAgg t).run P w = .ok (C.T t).agg w := by
  obtain ⟨i, d, hi, _, _, _, hd, hk, _⟩ := ty_info hT hk
  simp only [isAgg, Sem.run_bind, run_underlying hd, Result.andThen_ok, TI.agg, ← hk]
  cases d <;> rfl
end

/-! ### Values -/
theorem Rel_ofV0 (w : World) (rd) (v : Value) : Rel w rd (ofV0 v) v := by
  unfold ofV0
  split <;> simp [Rel]
theorem RelL_ofV0 (w : World) (rd) : ∀ vs : List Value, RelL w rd (vs.map ofV0) vs
  | [] => by simp [RelL]
  | v :: vs => by simp only [List.map_cons, RelL]; exact ⟨v, vs, rfl, Rel_ofV0 w rd v, RelL_ofV0 w rd vs⟩
theorem Rel_ofV (w : World) (rd) (v : Value) : Rel w rd (ofV v) v := by
  unfold ofV
  split
  · split
    · rename_i cs h
      simp only [Rel]
      exact ⟨cs, rfl, RelL_ofV0 w rd _, fun u hu => List.all_eq_true.1 h u hu⟩
    · simp [Rel]
  · exact Rel_ofV0 w rd v
theorem RelL_cellsOf {w : World} {rd} {x : AV} {v : Value} (h : Rel w rd x v) (ho : okCells x = true) : RelL w rd (cellsOf x) v.cells.toList ∧ ∀ u ∈ v.cells.toList, u.oneCell' = true := by
  cases x <;> simp only [okCells, scal, Bool.false_eq_true] at ho <;> simp only [cellsOf]
  case ag xs =>
    simp only [Rel] at h
    obtain ⟨cs, rfl, h2, h3⟩ := h
    exact ⟨h2, h3⟩
  all_goals
    have hc : v.cells = #[v] ∧ v.oneCell' = true := by
      simp only [Rel] at h
      first
        | (subst h; exact ⟨rfl, rfl⟩)
        | (rcases h with ⟨_, _, rfl⟩ | ⟨_, _, _, rfl, _⟩ <;> exact ⟨rfl, rfl⟩)
        | (obtain ⟨_, _, rfl, _⟩ := h; exact ⟨rfl, rfl⟩)
        | (obtain ⟨_, rfl, _⟩ := h; exact ⟨rfl, rfl⟩)
    refine ⟨?_, by rw [hc.1]; simpa using hc.2⟩
    rw [hc.1]
    simp only [RelL]
    exact ⟨v, [], rfl, h, rfl⟩

/-! ### Worlds -/
theorem heap_alloc_lt (w : World) (o : Obj) {b : Nat} (hb : b < w.heap.size) : (w.alloc o).heap[b]? = w.heap[b]? := heap_alloc_old w o hb
theorem cell_of_block {w w' : World} {b : Nat} (h : w'.heap[b]? = w.heap[b]?) (off : Nat) : w'.cell? ⟨b, off, none⟩ = w.cell? ⟨b, off, none⟩ :=
  World.cell?_of_block (a := ⟨b, off, none⟩) h
theorem shape_of_block {w w' : World} {b : Nat} (h : w'.heap[b]? = w.heap[b]?) : w'.shape? b = w.shape? b := by simp [World.shape?, h]
theorem shape_lt {w : World} {b : Nat} {x} (h : w.shape? b = some x) : b < w.heap.size := by
  unfold World.shape? at h
  cases e : w.heap[b]? with
  | none => rw [e] at h; cases h
  | some o => exact lt_of_block e
theorem Adv.alloc {w : World} {S : St} (o : Obj) (hS : S w.heap.size = none) : Adv w S (w.alloc o) S := by
  refine ⟨rfl, rfl, rfl, by simp, fun b hb hn => ⟨hn, heap_alloc_lt w o hb⟩, fun b off hb hr => ⟨hr, cell_of_block (heap_alloc_lt w o hb) off⟩, fun b e n h => ?_⟩
  rw [shape_of_block (heap_alloc_lt w o (shape_lt h))]; exact h
theorem Adv.allocOwn {w : World} {S : St} (o : Obj) (p : Own) (hS : S w.heap.size = none) : Adv w S (w.alloc o) (S.upd w.heap.size p) := by
  refine ⟨rfl, rfl, rfl, by simp, fun b hb hn => ⟨?_, heap_alloc_lt w o hb⟩, fun b off hb hr => ⟨?_, cell_of_block (heap_alloc_lt w o hb) off⟩, fun b e n h => ?_⟩
  · rw [St.upd_ne _ _ _ _ (Nat.ne_of_lt hb)]; exact hn
  · simp only [rdOf, St.upd_ne _ _ _ _ (Nat.ne_of_lt hb)]; exact hr
  · rw [shape_of_block (heap_alloc_lt w o (shape_lt h))]; exact h
theorem Inv.alloc {w : World} {S : St} (hi : Inv w S) (o : Obj) : Inv (w.alloc o) S := fun b p h =>
  OwnOk.mono (Adv.alloc o hi.fresh) (heap_alloc_lt w o (hi.lt h)) (hi b p h)
theorem Inv.allocOwn {w : World} {S : St} (hi : Inv w S) (o : Obj) (p : Own) (hp : OwnOk (w.alloc o) (rdOf (S.upd w.heap.size p)) w.heap.size p) : Inv (w.alloc o) (S.upd w.heap.size p) := by
  intro b q h
  by_cases e : b = w.heap.size
  · subst e; rw [St.upd_same] at h; cases h; exact hp
  · rw [St.upd_ne _ _ _ _ e] at h
    exact OwnOk.mono (Adv.allocOwn o p hi.fresh) (heap_alloc_lt w o (hi.lt h)) (hi b q h)
theorem GlobOk.mono {C : Cx} {w w' : World} {S S' : St} (hg : GlobOk C w S) (h : Adv w S w' S') : GlobOk C w' S' := fun g xs e => by
  obtain ⟨h1, h2, h3, ee, h4⟩ := hg g xs e
  exact ⟨(h.old g h2 h1).1, Nat.lt_of_lt_of_le h2 h.size, RelAt.mono h g 0 xs h3, ee, h.shape _ _ _ h4⟩
theorem Good.mk {C : Cx} {w w' : World} {S S' : St} (hg : Good C w S) (hi : Inv w' S') (h : Adv w S w' S') : Good C w' S' := ⟨hi, hg.2.mono h⟩
theorem Good.drew {C : Cx} {w : World} {S : St} (hg : Good C w S) : Good C w.drew S := hg.mk hg.1.drew (Adv.refl w S).drew
theorem Good.shrink {C : Cx} {w : World} {S S' : St} (hg : Good C w S') (h : St.le S S') : Good C w S := hg.mk (hg.1.shrink h) (Adv.shrink h)

/-! ### Frames -/
structure RelEnv (w : World) (S : St) (tmps : Array Value) (env : Env) (n : Nat) : Prop where
  size : tmps.size = n
  at_ : ∀ t, Rel w (rdOf S) (look t env) (tmps.getD t undef)
theorem RelEnv.mono {w w' : World} {S S' : St} {tmps : Array Value} {env : Env} {n : Nat} (h : RelEnv w S tmps env n) (ha : Adv w S w' S') : RelEnv w' S' tmps env n :=
  ⟨h.size, fun t => Rel.mono ha _ _ (h.at_ t)⟩
theorem look_cons (t s : Nat) (x : AV) (env : Env) : look t ((s, x) :: env) = if s = t then x else look t env := by
  show (bif Nat.beq s t then x else look t env) = _
  by_cases h : s = t
  · subst h; rw [if_pos rfl, Nat.beq_refl]; rfl
  · rw [if_neg h]
    have : Nat.beq s t = false := by
      cases e : Nat.beq s t with
      | false => rfl
      | true => exact absurd (Nat.eq_of_beq_eq_true e) h
    rw [this]; rfl
theorem RelEnv.put {w : World} {S : St} {a : Act} {env : Env} {n : Nat} (h : RelEnv w S a.tmps env n) (d : Option Tmp) (hd : ∀ t, d = some t → t < n) {x : AV} {v : Value} (hx : Rel w (rdOf S) x v) :
    RelEnv w S (a.put d v).tmps (put d x env) n := by
  cases d with
  | none => exact h
  | some d =>
    have hdn := hd d rfl
    have hsz := h.size
    refine ⟨by simp [Act.put, h.size], fun t => ?_⟩
    simp only [Act.put, Aw.put, look_cons]
    by_cases e : d = t
    · subst e; simp only [if_true]; simp [Array.getD, h.size, hdn]; exact hx
    · simp only [if_neg e]
      have := h.at_ t
      simp only [Array.getD_eq_getD_getElem?, Array.getElem?_setIfInBounds_ne e] at this ⊢
      exact this
theorem RelEnv.know {w : World} {S : St} {tmps : Array Value} {env : Env} {n : Nat} (h : RelEnv w S tmps env n) (t : Nat) {x : AV} (hx : Rel w (rdOf S) x (tmps.getD t undef)) : RelEnv w S tmps ((t, x) :: env) n :=
  ⟨h.size, fun s => by rw [look_cons]; split; (· rename_i e; subst e; exact hx); exact h.at_ s⟩
theorem ev_sound {C : Cx} {w : World} {S : St} {a : Act} {env : Env} {n : Nat} (hg : Good C w S) (h : RelEnv w S a.tmps env n) (x : Operand) : Rel w (rdOf S) (ev C env x) (a.eval x) := by
  cases x with
  | tmp t => exact h.at_ t
  | const v => exact Rel_ofV w _ v
  | func f => simp only [ev, Act.eval, Rel]; exact ⟨#[], #[], rfl, by simp [RelL], by simp [RelL]⟩
  | global g =>
    simp only [ev, Act.eval]
    cases e : C.G g with
    | none => simp [Rel]
    | some xs => simp only [Rel]; exact ⟨g, 0, rfl, (hg.2 g xs e).2.2.1⟩
theorem evL_sound {C : Cx} {w : World} {S : St} {a : Act} {env : Env} {n : Nat} (hg : Good C w S) (h : RelEnv w S a.tmps env n) : ∀ xs : List Operand, RelL w (rdOf S) (xs.map (ev C env)) (xs.map a.eval)
  | [] => by simp [RelL]
  | x :: xs => by simp only [List.map_cons, RelL]; exact ⟨_, _, rfl, ev_sound hg h x, evL_sound hg h xs⟩

end Go.Proofs.YtikkoaoibomofaaGreatDoor.Aw

/-
  Small laws for walks: int arithmetic, stores, accumulators; contracts of the library's functions brought into the abstract walk's words. No condition.
-/
import Derived.Test.YtikkoaoibomofaaGreatDoorAwJ
set_option linter.unusedVariables false
namespace Go.Proofs.YtikkoaoibomofaaGreatDoor.Aw
open Go Go.RowKit

theorem wrap_i64 {n : Int} (h0 : -9223372036854775808 ≤ n) (h1 : n ≤ 9223372036854775807) : IntKind.i64.wrap n = n := by
  rw [IntKind.wrap_i64]; omega
theorem wrap_nat {i : Nat} (h : i + 1 ≤ 9223372036854775807) : IntKind.i64.wrap ((i : Int) + 1) = ((i + 1 : Nat) : Int) := by
  rw [wrap_i64 (by omega) (by omega)]; omega
theorem St.le_none {S S' : St} (h : St.le S S') {b : Nat} (hb : S' b = none) : S b = none := by
  cases e : S b with
  | none => rfl
  | some o => rw [h b o e] at hb; cases hb
theorem St.le_del {S S' : St} (h : St.le S S') {b : Nat} (hb : S b = none) : St.le S (S'.del b) := fun x o e => by
  have : x ≠ b := fun hx => by rw [hx, hb] at e; cases e
  rw [St.del_ne _ _ _ this]; exact h x o e
theorem St.le_upd' {S S' : St} (h : St.le S S') {b : Nat} (hb : S' b = none) (o : Own) : St.le S (S'.upd b o) := St.le_upd h (St.le_none h hb) o
theorem St.del_upd {S : St} {b : Nat} (h : S b = none) {o : Own} : (S.upd b o).del b = S := by
  funext x
  by_cases hx : x = b
  · subst hx; rw [St.del_same]; exact h.symm
  · rw [St.del_ne _ _ _ hx, St.upd_ne _ _ _ _ hx]
theorem St.le_upd2 {S S' : St} (h : St.le S S') (b : Nat) (o : Own) : St.le (S.upd b o) (S'.upd b o) := fun x p e => by
  by_cases hx : x = b
  · subst hx; rw [St.upd_same] at e ⊢; exact e
  · rw [St.upd_ne _ _ _ _ hx] at e ⊢; exact h x p e
theorem St.upd_comm {S : St} {b c : Nat} (h : b ≠ c) (o p : Own) : (S.upd b o).upd c p = (S.upd c p).upd b o := by
  funext x
  simp only [St.upd]
  by_cases h1 : x = c
  · subst h1; simp [Ne.symm h]
  · simp [h1]
theorem St.upd_self {S : St} {b : Nat} {o : Own} (h : S b = some o) : S.upd b o = S := by
  funext x
  simp only [St.upd]
  split
  · rename_i e; subst e; exact h.symm
  · rfl
/-- A list that a loop appends to: nil, or of the loop's own memory. -/
structure AccOk (S S₁ : St) (e : TypeId) (k b n : Nat) : Prop where
  le : St.le S S₁
  tip : 0 < n → S₁ b = some (.tip e k n)
  new : 0 < n → S b = none
theorem AccOk.init (S : St) (e : TypeId) (k b : Nat) : AccOk S S e k b 0 := ⟨St.le_refl S, by omega, by omega⟩
theorem AccOk.init' {S S₁ : St} (h : St.le S S₁) (e : TypeId) (k b : Nat) : AccOk S S₁ e k b 0 := ⟨h, by omega, by omega⟩
theorem AccOk.push {S S₁ S₂ : St} {e : TypeId} {k b n m : Nat} (h : AccOk S S₁ e k b n) {es : List (List AV)} (hn : es.length = n) (k1 : es = [] → S₂ = S₁) (k2 : es ≠ [] → S₂ = S₁.del b) {b' : Nat} (hb : S₂ b' = none) {o : Own} (ho : o = .tip e k m) :
    AccOk S (S₂.upd b' o) e k b' m := by
  subst ho
  have hle : St.le S S₂ := by
    by_cases he : es = []
    · rw [k1 he]; exact h.le
    · rw [k2 he]; exact St.le_del h.le (h.new (by rw [← hn]; exact List.length_pos_iff.2 he))
  exact ⟨St.le_upd' hle hb _, fun _ => St.upd_same _ _ _, fun _ => St.le_none hle hb⟩

mutual
theorem AV.leS_refl (S S' : St) : ∀ x, AV.leS S S' x x
  | .sl sh k es => by unfold AV.leS; split <;> simp_all [Sh.mayNil]
  | .nils => by unfold AV.leS; rfl
  | .ref b o => by unfold AV.leS; rfl
  | .ifc t x => by unfold AV.leS; exact ⟨rfl, AV.leS_refl S S' x⟩
  | .tu xs => by unfold AV.leS; exact AV.leSL_refl S S' xs
  | .ag xs => by unfold AV.leS; exact AV.leSL_refl S S' xs
  | .int _ _ => by unfold AV.leS; rfl
  | .bool _ => by unfold AV.leS; rfl
  | .str _ => by unfold AV.leS; rfl
  | .nilp => by unfold AV.leS; rfl
  | .imm _ => by unfold AV.leS; rfl
  | .arr _ _ _ _ => by unfold AV.leS; rfl
  | .nilf => by unfold AV.leS; rfl
  | .fn _ _ _ => by unfold AV.leS; rfl
  | .nili => by unfold AV.leS; rfl
  | .nilm => by unfold AV.leS; rfl
  | .mp _ => by unfold AV.leS; rfl
  | .raw _ => by unfold AV.leS; rfl
  | .top => by unfold AV.leS; trivial
theorem AV.leSL_refl (S S' : St) : ∀ xs, AV.leSL S S' xs xs
  | [] => by unfold AV.leSL; rfl
  | x :: xs => by unfold AV.leSL; exact ⟨AV.leS_refl S S' x, AV.leSL_refl S S' xs⟩
end
section
variable {P : Program} {C : Cx}
theorem Adv.of_below {w w' : World} {S : St} (hg : Inv w S) (h : Below w.heap.size w w') : Adv w S w' S := by
  have hb : ∀ b, b < w.heap.size → w'.heap[b]? = w.heap[b]? := fun b hb => h.block b hb
  exact ⟨h.os, h.tape, h.output, h.size, fun b hlt hn => ⟨hn, hb b hlt⟩, fun b off hlt hr => ⟨hr, cell_of_block (hb b hlt) off⟩, fun b e n hs => by rw [shape_of_block (hb b (shape_lt hs))]; exact hs⟩
theorem Good.of_below {w w' : World} {S : St} (hg : Good C w S) (h : Below w.heap.size w w') : Good C w' S := by
  have hadv := Adv.of_below hg.1 h
  exact hg.mk (fun b o ho => OwnOk.mono hadv (h.block b (hg.1.lt ho)) (hg.1 b o ho)) hadv
/-- A contract of the kit's shelf, in these words: the store is as it was. -/
theorem Triple.of_calls {f : FuncId} {fn : Func} {c : Code} (hf : P.funcs[f]? = some fn) (hb : fn.body = some c) (hname : (fn.name == "runtime.NumGoroutine") = false) {args : List AV} {S : St} {x : AV} {Q : Out → St → Prop}
    (h : ∀ (w : World) (vs : Array Value), Good C w S → RelL w (rdOf S) args vs.toList → Calls P f vs w fun e w' => ∃ v, e = .returned v ∧ Rel w' (rdOf S) x v ∧ Below w.heap.size w w') (hQ : Q (.ret x) S) : Triple P C f args S Q := by
  refine ⟨fun vs w => ?_, fun w vs hg hr => (h w vs hg hr).mono fun e w' he => ?_⟩
  · have hno : ¬ fn.name = "runtime.NumGoroutine" := by simpa using hname
    simp [callFunc, hf, hno, hb]
  · obtain ⟨v, rfl, hv, hbel⟩ := he
    exact ⟨.ret x, S, hv, hg.of_below hbel, Adv.of_below hg.1 hbel, hQ⟩
theorem Triple.args {f : FuncId} {args args' : List AV} {S : St} {Q : Out → St → Prop} (h : Triple P C f args' S Q) (hle : leL args args') : Triple P C f args S Q :=
  ⟨h.enter, fun w vs hg hr => h.out w vs hg (leL_sound hle hr)⟩
theorem Triple.use {f : FuncId} {args args' : List AV} {S : St} {Q Q' : Out → St → Prop} (h : Triple P C f args' S Q) (hle : leL args args') (hq : ∀ o S', Q o S' → Q' o S') : Triple P C f args S Q' := (Triple.args h hle).mono hq
theorem Triple.weakS {f : FuncId} {args : List AV} {S₀ S : St} {Q : Out → St → Prop} (h : Triple P C f args S₀ Q) (hw : St.leW S₀ S) : Triple P C f args S Q :=
  ⟨h.enter, fun w vs hg hr => (h.out w vs (hg.weakS hw) (by rw [St.leW_rd hw]; exact hr)).mono fun e w' ⟨o, S', h1, h2, h3, h4⟩ => ⟨o, S', h1, h2, Adv.weakS hw h3, h4⟩⟩
/-- A contract says less of its result: what it owns and doesn't tell is let go. -/
def Out.leS (S S' : St) : Out → Out → Prop
  | .ret x, .ret y => AV.leS S S' x y
  | .pan x, .pan y => AV.leS S S' x y
  | _, _ => False
theorem Triple.lessen {f : FuncId} {args : List AV} {S : St} {Q Q' : Out → St → Prop} (h : Triple P C f args S Q) (hq : ∀ o S', Q o S' → ∃ o' S'', Q' o' S'' ∧ St.le S'' S' ∧ Out.leS S' S'' o o') : Triple P C f args S Q' :=
  ⟨h.enter, fun w vs hg hr => (h.out w vs hg hr).mono fun e w' ⟨o, S', h1, h2, h3, h4⟩ => by
    obtain ⟨o', S'', k1, k2, k3⟩ := hq o S' h4
    refine ⟨o', S'', ?_, h2.shrink k2, h3.trans (Adv.shrink k2), k1⟩
    cases o <;> cases o' <;> first | exact k3.elim | skip
    · cases e <;> first | exact h1.elim | exact AV.leS_sound h2.1 k2 _ _ _ k3 h1
    · cases e <;> first | exact h1.elim | skip
      obtain ⟨v, rfl, hv⟩ := h1
      exact ⟨v, rfl, AV.leS_sound h2.1 k2 _ _ _ k3 hv⟩⟩
end
end Go.Proofs.YtikkoaoibomofaaGreatDoor.Aw

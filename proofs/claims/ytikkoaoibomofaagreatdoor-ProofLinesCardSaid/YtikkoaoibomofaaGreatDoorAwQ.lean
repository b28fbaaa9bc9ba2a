/-
  A list of strings that a function made, handed to one that writes into it.
-/
import Derived.Test.YtikkoaoibomofaaGreatDoorAwP2
import Derived.Test.YtikkoaoibomofaaGreatDoorAwO
set_option linter.unusedVariables false
set_option linter.unusedSimpArgs false
namespace Go.Proofs.YtikkoaoibomofaaGreatDoor.Aw
open Go Go.RowKit

theorem St.emp_le (S : St) : St.le St.emp S := fun b o h => by cases h
theorem RelL_strs_inv (w : World) (rd) : ∀ (l : List ByteArray) (vs : List Value), RelL w rd (rowsS l).flatten vs → vs = l.map Value.string
  | [], vs, h => by simpa [rowsS, RelL] using h
  | s :: l, vs, h => by
    simp only [rowsS, List.map_cons, List.flatten_cons, List.singleton_append, RelL] at h
    obtain ⟨u, us, rfl, h1, h2⟩ := h
    simp only [Rel] at h1
    rw [RelL_strs_inv w rd l us h2, h1]; rfl
theorem RelL_str' (w : World) (rd) : ∀ l : List ByteArray, RelL w rd (l.map AV.str) (l.map Value.string)
  | [] => by simp [RelL]
  | s :: l => by
    simp only [List.map_cons, RelL]
    exact ⟨_, _, rfl, by simp only [Rel], RelL_str' w rd l⟩
theorem RelL_tops (w : World) (rd) : ∀ vs : List Value, RelL w rd (List.replicate vs.length AV.top) vs
  | [] => by simp [RelL]
  | v :: vs => by
    simp only [List.length_cons, List.replicate_succ, RelL]
    exact ⟨_, _, rfl, by simp only [Rel], RelL_tops w rd vs⟩
theorem Triple.thaw {P : Program} {C : Cx} {f : FuncId} {args : List AV} {l : List ByteArray} {e : TypeId} (h : Triple P C f args St.emp fun o S' => ∃ b, St.emp b = none ∧ o = .ret (.sl (.own b) 1 (rowsS l)) ∧ S' = St.emp.upd b (.tip e 1 l.length)) (S : St) :
    Triple P C f args S fun o S' => ∃ b cap junk, S b = none ∧ o = .ret (.arr b 0 l.length cap) ∧ S' = S.upd b (.obj e (l.map AV.str ++ junk)) ∧ l.length ≤ cap ∧ cap ≤ l.length + junk.length ∧ cap ≤ maxLen := by
  refine ⟨h.enter, fun w vs hg hr => (h.out w vs (hg.shrink (St.emp_le S)) (RelL.mono (Adv.shrink (St.emp_le S)) _ _ hr)).mono fun en w' ⟨o, S', h1, h2, h3, b, _, ho, hS⟩ => ?_⟩
  subst ho; subst hS
  cases en with
  | returned v =>
    simp only [OutRel, Rel, Sh.mayNil, Bool.false_eq_true, false_and, false_or] at h1
    obtain ⟨b1, off, cap, rfl, hlc, hmax, ⟨hbb, hoff, e', hsh⟩, hrows⟩ := h1
    subst hbb; subst hoff
    rw [rowsS_len] at hlc
    obtain ⟨cur, cap', c1, c2, c3, c4, c5⟩ := h2.1 b _ (St.upd_same _ _ _)
    have hcap : cur.size = cap := by
      simp only [World.shape?, c1, Option.some.injEq, Prod.mk.injEq] at hsh
      omega
    have hb : ¬ b < w.heap.size := fun hlt => by
      have := (h3.old b hlt rfl).1
      rw [St.upd_same] at this; cases this
    have hSb : S b = none := by
      cases hh : S b with
      | none => rfl
      | some o => exact absurd (hg.1.lt hh) hb
    obtain ⟨us, r1, r2, r3, r4, r5⟩ := RelRows.cells hrows
    have hus := RelL_strs_inv _ _ l us r1
    have hcur : cur.toList = l.map Value.string ++ cur.toList.drop l.length := by
      apply List.ext_getElem?
      intro j
      by_cases hj : j < l.length
      · have hj2 : (l.map Value.string)[j]? = some (Value.string l[j]) := by simp [hj]
        have := r2 j _ (by rw [hus]; exact hj2)
        rw [Nat.zero_add, cell_of_row _ b j cur e (0, 0) c1] at this
        rw [List.getElem?_append_left (by simpa using hj), hj2, Array.getElem?_toList, this]
      · rw [List.getElem?_append_right (by simp; omega), List.getElem?_drop]
        simp only [List.length_map]
        congr 1; omega
    have hadv : Adv w S w' (S.upd b (.obj e (l.map AV.str ++ List.replicate (cur.toList.drop l.length).length AV.top))) := by
      have hne : ∀ x, x < w.heap.size → x ≠ b := fun x hx hh => hb (hh ▸ hx)
      exact ⟨h3.os, h3.tape, h3.output, h3.size, fun x hx hn => ⟨by rw [St.upd_ne _ _ _ _ (hne x hx)]; exact hn, (h3.old x hx rfl).2⟩,
        fun x off hx hr => ⟨by simp only [rdOf, St.upd_ne _ _ _ _ (hne x hx)]; exact hr, cell_of_block (h3.old x hx rfl).2 off⟩, h3.shape⟩
    refine ⟨.ret (.arr b 0 l.length cap), _, by simp only [OutRel, Rel, rowsS_len], hg.mk (fun x o ho => ?_) hadv, hadv, b, cap, _, hSb, rfl, rfl, hlc, by simp [hcap]; omega, hmax⟩
    by_cases hx : x = b
    · subst hx
      rw [St.upd_same] at ho; cases ho
      exact ⟨cur, c1, by rw [hcur]; exact RelL.append (RelL_str' _ _ l) (by simpa using RelL_tops _ _ (cur.toList.drop l.length)), c5⟩
    · rw [St.upd_ne _ _ _ _ hx] at ho
      exact OwnOk.mono hadv (h3.old x (hg.1.lt ho) rfl).2 (hg.1 x o ho)
  | _ => exact h1.elim
end Go.Proofs.YtikkoaoibomofaaGreatDoor.Aw

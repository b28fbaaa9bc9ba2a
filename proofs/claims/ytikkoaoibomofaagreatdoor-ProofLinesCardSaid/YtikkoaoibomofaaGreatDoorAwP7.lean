/-
  The plain law of Lines: cutting at every end of line is what the reference does.
-/
import Derived.Test.YtikkoaoibomofaaGreatDoorAwP5
import Derived.Lib.SplitLaws
set_option linter.unusedVariables false
set_option linter.unusedSimpArgs false
namespace Go.Proofs.YtikkoaoibomofaaGreatDoor.Aw
open Go Go.RowKit

def nlL : List UInt8 → List (List UInt8)
  | [] => [[]]
  | c :: r => if c = 10 then [] :: nlL r else match nlL r with | [] => [[c]] | x :: xs => (c :: x) :: xs
theorem nlL_ne : ∀ s, nlL s ≠ []
  | [] => by simp [nlL]
  | c :: r => by
    unfold nlL
    split
    · simp
    · split <;> simp
theorem splitK_nl : ∀ (s : List UInt8) (k : Nat), s.count 10 ≤ k → Lib.splitK [10] 0 k s = nlL s
  | [], k, _ => by
    cases k with
    | zero => rfl
    | succ k => simp [Lib.splitK, Lib.index_one, Lib.indexByte, nlL]
  | c :: r, k, h => by
    by_cases hc : c = 10
    · subst hc
      cases k with
      | zero => simp at h
      | succ k =>
        have ih := splitK_nl r k (by simp at h; omega)
        simp [Lib.splitK, Lib.index_one, Lib.indexByte, nlL, ih]
    · have hcnt : (c :: r).count 10 = r.count 10 := by rw [List.count_cons_of_ne hc]
      rw [hcnt] at h
      have ih := splitK_nl r k h
      unfold nlL
      rw [if_neg hc, ← ih]
      cases k with
      | zero => rfl
      | succ k =>
        have hge := Lib.indexByte_ge r 10
        by_cases hi : Lib.indexByte r 10 = -1
        · simp [Lib.splitK, Lib.index_one, Lib.indexByte, hc, hi]
        · have e1 : (Lib.indexByte r 10 + 1 == -1) = false := by simp; omega
          have e2 : (Lib.indexByte r 10 + 1).toNat = (Lib.indexByte r 10).toNat + 1 := by omega
          simp [Lib.splitK, Lib.index_one, Lib.indexByte, hc, hi, e1, e2]
def preL (cur : List UInt8) : List (List UInt8) → List (List UInt8)
  | [] => [cur]
  | x :: xs => (cur ++ x) :: xs
def trimL (l : List (List UInt8)) : List (List UInt8) := if l[l.length - 1]? = some [] then l.take (l.length - 1) else l
theorem trimL_cons (x : List UInt8) (l : List (List UInt8)) (h : l ≠ []) : trimL (x :: l) = x :: trimL l := by
  obtain ⟨y, ys, rfl⟩ := List.exists_cons_of_ne_nil h
  simp only [trimL, List.length_cons, Nat.add_sub_cancel, List.getElem?_cons_succ]
  split <;> simp
theorem preL_nil {L : List (List UInt8)} (h : L ≠ []) : preL [] L = L := by
  obtain ⟨y, ys, rfl⟩ := List.exists_cons_of_ne_nil h
  simp [preL]
theorem preL_more (cur : List UInt8) (c : UInt8) (hc : c ≠ 10) (r : List UInt8) : preL (cur ++ [c]) (nlL r) = preL cur (nlL (c :: r)) := by
  obtain ⟨y, ys, hy⟩ := List.exists_cons_of_ne_nil (nlL_ne r)
  simp [nlL, hc, hy, preL]
theorem refLinesGo_data (s : ByteArray) : ∀ (n i fr : Nat) (acc : List ByteArray), s.size - i = n → fr ≤ i → i ≤ s.size →
    (refLinesGo s i fr acc).map (·.data.toList) = acc.map (·.data.toList) ++ trimL (preL ((s.data.toList.drop fr).take (i - fr)) (nlL (s.data.toList.drop i)))
  | 0, i, fr, acc, hn, h1, h2 => by
    have hi : i = s.size := by omega
    have hlen : s.data.toList.length = s.size := by simp
    unfold refLinesGo
    rw [dif_neg (by omega)]
    have hd : s.data.toList.drop i = [] := List.drop_eq_nil_of_le (by omega)
    have ht : (s.data.toList.drop fr).take (i - fr) = s.data.toList.drop fr := List.take_of_length_le (by rw [List.length_drop]; omega)
    rw [hd, ht]
    by_cases hf : fr < s.size
    · rw [if_pos hf]
      have hne : s.data.toList.drop fr ≠ [] := fun e => by
        have := congrArg List.length e
        rw [List.length_drop] at this
        simp at this
        omega
      simp only [List.map_append, List.map_cons, List.map_nil, nlL, preL, List.append_nil, trimL, List.length_singleton, Nat.sub_self, List.getElem?_cons_zero, Option.some.injEq]
      rw [if_neg hne, Lib.extract_to_end]
    · rw [if_neg hf]
      have he : s.data.toList.drop fr = [] := List.drop_eq_nil_of_le (by omega)
      simp [nlL, preL, trimL, he]
  | n + 1, i, fr, acc, hn, h1, h2 => by
    have hlt : i < s.size := by omega
    have hlen : s.data.toList.length = s.size := by simp
    have hdrop : s.data.toList.drop i = s.data.toList[i] :: s.data.toList.drop (i + 1) := List.drop_eq_getElem_cons (by omega)
    unfold refLinesGo
    rw [dif_pos hlt]
    have hby : byteAt s i = (s.data.toList[i].toNat : Int) := by
      simp only [byteAt, List.getD_eq_getElem?_getD, List.getElem?_eq_getElem (show i < s.data.toList.length by omega), Option.getD_some]
    by_cases hb : byteAt s i = 10
    · rw [if_pos hb]
      have hc : s.data.toList[i] = 10 := by
        rw [hby] at hb
        exact UInt8.toNat_inj.1 (by have : s.data.toList[i].toNat = 10 := by omega
                                    rw [this]; rfl)
      rw [refLinesGo_data s n (i + 1) (i + 1) _ (by omega) (Nat.le_refl _) (by omega), hdrop, hc, Nat.sub_self, List.take_zero, preL_nil (nlL_ne _)]
      rw [show nlL (10 :: s.data.toList.drop (i + 1)) = [] :: nlL (s.data.toList.drop (i + 1)) from by simp [nlL]]
      simp only [preL, List.append_nil, List.map_append, List.map_cons, List.map_nil]
      rw [trimL_cons _ _ (nlL_ne _), Lib.extract_data, List.append_assoc]
      rfl
    · rw [if_neg hb]
      have hc : s.data.toList[i] ≠ 10 := fun e => hb (by rw [hby, e]; rfl)
      rw [refLinesGo_data s n (i + 1) fr _ (by omega) (by omega) (by omega), hdrop, ← preL_more _ _ hc]
      have hcur : (s.data.toList.drop fr).take (i + 1 - fr) = (s.data.toList.drop fr).take (i - fr) ++ [s.data.toList[i]] := by
        rw [show i + 1 - fr = (i - fr) + 1 by omega, List.take_add_one, List.getElem?_drop, show fr + (i - fr) = i by omega, List.getElem?_eq_getElem (show i < s.data.toList.length by omega)]
        rfl
      rw [hcur]
theorem bytes_inj {a b : ByteArray} (h : a.data.toList = b.data.toList) : a = b := by
  obtain ⟨⟨a⟩⟩ := a
  obtain ⟨⟨b⟩⟩ := b
  simp at h
  rw [h]
theorem maps_inj : ∀ {a b : List ByteArray}, a.map (·.data.toList) = b.map (·.data.toList) → a = b
  | [], [], _ => rfl
  | [], _ :: _, h => by simp at h
  | _ :: _, [], h => by simp at h
  | x :: a, y :: b, h => by
    simp only [List.map_cons, List.cons.injEq] at h
    rw [bytes_inj h.1, maps_inj h.2]
theorem lines_law (s : ByteArray) : linesOf s = refLinesGo s 0 0 [] := by
  apply maps_inj
  rw [refLinesGo_data s _ 0 0 [] rfl (Nat.le_refl _) (Nat.zero_le _)]
  have hs : (splitS s sepNL).map (·.data.toList) = nlL s.data.toList := by
    rw [splitS, Lib.splitB_data]
    exact splitK_nl _ _ (by rw [← Lib.count_one]; exact Nat.le_refl _)
  simp only [List.map_nil, List.nil_append, Nat.sub_self, List.take_zero, List.drop_zero]
  rw [preL_nil (nlL_ne _), ← hs]
  have hl : ((splitS s sepNL).map (·.data.toList)).length = (splitS s sepNL).length := by simp
  unfold linesOf trimL
  simp only [hl, List.getElem?_map]
  cases hx : (splitS s sepNL)[(splitS s sepNL).length - 1]? with
  | none => simp
  | some x =>
    by_cases he : x = ⟨#[]⟩
    · subst he
      simp
    · have he' : x.data.toList ≠ [] := fun e => he (bytes_inj (by rw [e]))
      simp [he, he']
end Go.Proofs.YtikkoaoibomofaaGreatDoor.Aw

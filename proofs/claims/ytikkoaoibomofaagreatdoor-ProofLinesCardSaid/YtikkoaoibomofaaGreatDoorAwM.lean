/-
  The abstract walk is sound: maps. No condition.
-/
import Derived.Test.YtikkoaoibomofaaGreatDoorAwH
import Derived.Maps.RangeRun
import Derived.MapKept
set_option linter.unusedVariables false
set_option linter.unusedSimpArgs false
namespace Go.Proofs.YtikkoaoibomofaaGreatDoor.Aw
open Go Go.RowKit
section
variable {P : Program} {C : Cx}
def kFits (d : TypeDesc) (p : AV) : Prop := match d, p with | .int _, .int _ _ => True | .string, .str _ => True | _, _ => False
theorem keyEq_sound {w : World} {rd} {d : TypeDesc} {p q : AV} {x y : Value} (hd : (∃ k, d = .int k) ∨ d = .string) (hk : kFits d p) (hx : Rel w rd p x) (hy : Rel w rd q y) {b : Bool} (h : keyEq p q = some b) : Instr.sameNow d x y = some b := by
  unfold keyEq at h
  split at h
  · rename_i k a k' c
    simp only [Rel] at hx hy
    subst hx hy
    split at h
    · rename_i hkk
      have hkk := of_decide_eq_true hkk
      subst hkk
      simp only [Option.some.injEq] at h
      rcases hd with ⟨kk, rfl⟩ | rfl
      · simp [Instr.sameNow, h]
      · exact hk.elim
    · cases h
  · rename_i a c
    simp only [Rel] at hx hy
    subst hx hy
    simp only [Option.some.injEq] at h
    rcases hd with ⟨kk, rfl⟩ | rfl
    · exact hk.elim
    · simp only [Instr.sameNow]
      rw [← h]
      by_cases hac : a = c
      · subst hac; simp; show (a.data == a.data) = true; simp
      · have : ¬ a.data = c.data := fun hh => hac (by cases a; cases c; simp_all)
        simp [hac]; show (a.data == c.data) = false; simpa using this
  · cases h
theorem aFindK_sound {w : World} {rd} {d : TypeDesc} {p : AV} {x : Value} (hd : (∃ k, d = .int k) ∨ d = .string) (hk : kFits d p) (hx : Rel w rd p x) {K : AV → Prop} {Kn : Prop} :
    ∀ (es : List (AV × AV)) (ms : List MapEntry) (i : Nat), RelL w rd (es.map (·.1)) (ms.map (·.key)) → RelL w rd (es.map (·.2)) (ms.map (·.val)) → aFindK p es K Kn →
      (∃ j v u, Instr.findNow d x ms i = some (some (j, u)) ∧ K v ∧ Rel w rd v u) ∨ (Instr.findNow d x ms i = some none ∧ Kn)
  | [], ms, i, h1, h2, h => by
    simp only [List.map_nil, RelL] at h1
    have : ms = [] := by simpa using h1
    subst this
    exact .inr ⟨rfl, h⟩
  | (k0, v0) :: r, ms, i, h1, h2, h => by
    simp only [List.map_cons, RelL] at h1 h2
    obtain ⟨u, us, e1, h3, h4⟩ := h1
    obtain ⟨u', us', e2, h5, h6⟩ := h2
    cases ms with
    | nil => simp at e1
    | cons m ms =>
      simp only [List.map_cons, List.cons.injEq] at e1 e2
      obtain ⟨rfl, rfl⟩ := e1
      obtain ⟨rfl, rfl⟩ := e2
      unfold aFindK at h
      split at h
      · rename_i b hb
        have hs := keyEq_sound hd hk hx h3 hb
        rw [split_iff] at h
        unfold Instr.findNow
        rw [hs]
        cases b with
        | true => exact .inl ⟨i, v0, _, rfl, h.1 rfl, h5⟩
        | false => exact aFindK_sound hd hk hx r ms (i + 1) h4 h6 (h.2 rfl)
      · exact h.elim
theorem aSetK_sound {w : World} {rd} {d : TypeDesc} {p v : AV} {x : Value} (hd : (∃ k, d = .int k) ∨ d = .string) (hk : kFits d p) (hx : Rel w rd p x) :
    ∀ (es : List (AV × AV)) (ms : List MapEntry) (i : Nat) {K : List (AV × AV) → Prop}, RelL w rd (es.map (·.1)) (ms.map (·.key)) → aSetK p v es K →
      ∃ es', K es' ∧ ((∃ j u, Instr.findNow d x ms i = some (some (i + j, u)) ∧ j < ms.length ∧ es' = es.set j (p, v) ∧ ∃ k0 m0, (es.map (·.1))[j]? = some k0 ∧ ms[j]? = some m0 ∧ keyEq p k0 = some true) ∨ (Instr.findNow d x ms i = some none ∧ es' = es ++ [(p, v)]))
  | [], ms, i, K, h1, h => by
    simp only [List.map_nil, RelL] at h1
    have : ms = [] := by simpa using h1
    subst this
    exact ⟨_, h, .inr ⟨rfl, rfl⟩⟩
  | (k0, v0) :: r, ms, i, K, h1, h => by
    simp only [List.map_cons, RelL] at h1
    obtain ⟨u, us, e1, h3, h4⟩ := h1
    cases ms with
    | nil => simp at e1
    | cons m ms =>
      simp only [List.map_cons, List.cons.injEq] at e1
      obtain ⟨rfl, rfl⟩ := e1
      unfold aSetK at h
      split at h
      · rename_i b hb
        have hs := keyEq_sound hd hk hx h3 hb
        rw [split_iff] at h
        unfold Instr.findNow
        rw [hs]
        cases b with
        | true => exact ⟨_, h.1 rfl, .inl ⟨0, _, rfl, by simp, by simp, k0, m, by simp, by simp, hb⟩⟩
        | false =>
          obtain ⟨es', k1, k2⟩ := aSetK_sound hd hk hx r ms (i + 1) h4 (h.2 rfl)
          refine ⟨_, k1, ?_⟩
          rcases k2 with ⟨j, u, m1, m2, rfl, k0', m0, m3, m4, m5⟩ | ⟨m1, rfl⟩
          · exact .inl ⟨j + 1, u, by rw [m1]; congr 2; simp; omega, by simpa using m2, by simp, k0', m0, by simpa using m3, by simpa using m4, m5⟩
          · exact .inr ⟨m1, by simp⟩
      · exact h.elim
def setMap (w : World) (b : Nat) (ms : Array MapEntry) (clock : Nat) : World := { w with heap := w.heap.setIfInBounds b (.map ms clock) }
theorem Adv.setMap {w : World} {S : St} {b : Nat} {es : List (AV × AV)} {ms : Array MapEntry} {clock : Nat} (hS : S b = some (.mapo es)) (hb : w.heap[b]? = some (.map ms clock)) (es' : List (AV × AV)) (ms' : Array MapEntry) (clock' : Nat) :
    Adv w S (setMap w b ms' clock') (S.upd b (.mapo es')) := by
  have hother : ∀ x, x ≠ b → (Aw.setMap w b ms' clock').heap[x]? = w.heap[x]? := fun x hx => by simp [Aw.setMap, Array.getElem?_setIfInBounds_ne (Ne.symm hx)]
  refine ⟨rfl, rfl, rfl, by simp [Aw.setMap], fun x hx hn => ?_, fun x off hx hr => ?_, fun x e' n hx => ?_⟩
  · have hne : x ≠ b := St.ne_of' hn hS
    exact ⟨by rw [St.upd_ne _ _ _ _ hne]; exact hn, hother x hne⟩
  · have hne : x ≠ b := by rintro rfl; simp only [rdOf, hS] at hr
    refine ⟨by simp only [rdOf, St.upd_ne _ _ _ _ hne]; exact hr, cell_of_block (hother x hne) off⟩
  · by_cases hne : x = b
    · subst hne
      simp only [World.shape?, hb] at hx
      cases hx
    · rw [shape_of_block (hother x hne)]; exact hx
theorem Good.setMap {w : World} {S : St} (hg : Good C w S) {b : Nat} {es : List (AV × AV)} {ms : Array MapEntry} {clock : Nat} (hS : S b = some (.mapo es)) (hb : w.heap[b]? = some (.map ms clock)) {es' : List (AV × AV)} {ms' : Array MapEntry} {clock' : Nat}
    (h1 : RelL w (rdOf S) (es'.map (·.1)) (ms'.toList.map (·.key))) (h2 : RelL w (rdOf S) (es'.map (·.2)) (ms'.toList.map (·.val))) (h3 : BornOk ms' clock') : Good C (setMap w b ms' clock') (S.upd b (.mapo es')) := by
  have hadv := Adv.setMap hS hb es' ms' clock'
  refine hg.mk (fun x o ho => ?_) hadv
  by_cases hx : x = b
  · subst hx
    rw [St.upd_same] at ho
    cases ho
    exact ⟨ms', clock', (MapKept.heap_set hb).1, RelL.mono hadv _ _ h1, RelL.mono hadv _ _ h2, h3⟩
  · rw [St.upd_ne _ _ _ _ hx] at ho
    refine OwnOk.mono hadv ?_ (hg.1 x o ho)
    simp [Aw.setMap, Array.getElem?_setIfInBounds_ne (Ne.symm hx)]
theorem keyOk_kind (hT : TyOk P C) {kt : TypeId} {p : AV} (h : keyOk C kt p = true) {w : World} {rd} {x : Value} (hx : Rel w rd p x) : ∃ d, P.underlying kt = some d ∧ ((∃ k, d = .int k) ∨ d = .string) ∧ kFits d p ∧ MapKept.IsKey d x := by
  unfold keyOk at h
  split at h
  · rename_i k k' n hk
    have h := of_decide_eq_true h
    subst h
    simp only [Rel] at hx
    subst hx
    exact ⟨_, und_int hT hk, .inl ⟨_, rfl⟩, trivial, by simp [MapKept.IsKey]⟩
  · rename_i s hk
    simp only [Rel] at hx
    subst hx
    exact ⟨_, und_str hT hk, .inr rfl, trivial, by simp [MapKept.IsKey]⟩
  · cases h
theorem keyEq_same {w : World} {rd} {p q : AV} {x y : Value} (hx : Rel w rd p x) (hy : Rel w rd q y) (h : keyEq p q = some true) : x = y := by
  unfold keyEq at h
  split at h
  · simp only [Rel] at hx hy
    subst hx hy
    split at h
    · rename_i hkk
      have hkk := of_decide_eq_true hkk
      subst hkk
      simp only [Option.some.injEq, beq_iff_eq] at h
      rw [h]
    · cases h
  · simp only [Rel] at hx hy
    subst hx hy
    simp only [Option.some.injEq, decide_eq_true_eq] at h
    rw [h]
  · cases h
theorem map_modify_key (ms : List MapEntry) (j : Nat) (x y : Value) : (ms.modify j fun e => { e with key := x, val := y }).map (·.key) = (ms.map (·.key)).set j x := by
  apply List.ext_getElem?
  intro i
  simp only [List.getElem?_map, List.getElem?_modify, List.getElem?_set]
  by_cases h : j = i
  · subst h
    simp only [if_true]
    cases e : ms[j]? with
    | none => simp; exact List.getElem?_eq_none_iff.1 e
    | some m =>
      have : j < ms.length := by
        rcases Nat.lt_or_ge j ms.length with h | h
        · exact h
        · rw [List.getElem?_eq_none h] at e; cases e
      simp [this]
  · simp [h]
theorem map_modify_val (ms : List MapEntry) (j : Nat) (x y : Value) : (ms.modify j fun e => { e with key := x, val := y }).map (·.val) = (ms.map (·.val)).set j y := by
  apply List.ext_getElem?
  intro i
  simp only [List.getElem?_map, List.getElem?_modify, List.getElem?_set]
  by_cases h : j = i
  · subst h
    simp only [if_true]
    cases e : ms[j]? with
    | none => simp; exact List.getElem?_eq_none_iff.1 e
    | some m =>
      have : j < ms.length := by
        rcases Nat.lt_or_ge j ms.length with h | h
        · exact h
        · rw [List.getElem?_eq_none h] at e; cases e
      simp [this]
  · simp [h]
theorem map_modify_born (ms : List MapEntry) (j : Nat) (x y : Value) : (ms.modify j fun e => { e with key := x, val := y }).map (·.born) = ms.map (·.born) := by
  apply List.ext_getElem?
  intro i
  simp only [List.getElem?_map, List.getElem?_modify]
  by_cases h : j = i
  · subst h
    cases e : ms[j]? <;> simp
  · simp [h]
theorem BornOk.modify {ms : Array MapEntry} {clock : Nat} (h : BornOk ms clock) (j : Nat) (x y : Value) : BornOk (ms.modify j fun e => { e with key := x, val := y }) clock := by
  have hm := map_modify_born ms.toList j x y
  refine ⟨fun e he => ?_, by rw [Array.toList_modify, hm]; exact h.2⟩
  rw [Array.toList_modify] at he
  have : e.born ∈ ms.toList.map (·.born) := by rw [← hm]; exact List.mem_map.2 ⟨e, he, rfl⟩
  obtain ⟨e', h1, h2⟩ := List.mem_map.1 this
  rw [← h2]
  exact h.1 e' h1
theorem BornOk.push {ms : Array MapEntry} {clock : Nat} (h : BornOk ms clock) (x y : Value) : BornOk (ms.push { key := x, val := y, born := clock }) (clock + 1) := by
  refine ⟨fun e he => ?_, ?_⟩
  · simp only [Array.toList_push, List.mem_append, List.mem_singleton] at he
    rcases he with he | rfl
    · exact Nat.lt_succ_of_lt (h.1 e he)
    · exact Nat.lt_succ_self _
  · simp only [Array.toList_push, List.map_append, List.map_cons, List.map_nil]
    refine List.nodup_append.2 ⟨h.2, by simp, fun a ha b hb => ?_⟩
    obtain ⟨e, he, rfl⟩ := List.mem_map.1 ha
    have := h.1 e he
    simp at hb
    omega
theorem mapUpdate_sound (hT : TyOk P C) {w : World} {S : St} (hg : Good C w S) {t kt et r : Nat} (hk : (C.T t).kind = .map kt et) {kk vv : AV} {x y : Value} (hx : Rel w (rdOf S) kk x) (hy : Rel w (rdOf S) vv y) (hok : keyOk C kt kk = true)
    {es : List (AV × AV)} (hS : S r = some (.mapo es)) {K : List (AV × AV) → Prop} (h : aSetK kk vv es K) :
    ∃ es' w', K es' ∧ Good C w' (S.upd r (.mapo es')) ∧ Adv w S w' (S.upd r (.mapo es')) ∧ (Instr.mapUpdate t (.map (some r)) x y).run P w = .ok () w' := by
  have hu := und_map hT hk
  obtain ⟨d, hd, hd2, hd3, hd4⟩ := keyOk_kind (P := P) hT hok hx
  obtain ⟨ms, clock, hb, h1, h2, hborn⟩ := hg.1 r _ hS
  obtain ⟨es', k1, k2⟩ := aSetK_sound hd2 hd3 hx es ms.toList 0 h1 h
  have hgo := MapKept.run_getObj_map (P := P) hb
  have hck : (Instr.checkKey false 10000 kt x).run P w = .ok () w := MapKept.run_checkKey hd hd4 false 9999
  rcases k2 with ⟨j, u, m1, m2, rfl, k0, m0, m3, m4, m5⟩ | ⟨m1, rfl⟩
  · have hf := MapKept.run_findKey (P := P) (w := w) hd m1
    simp only [Nat.zero_add] at hf
    have hkey : m0.key = x := by
      obtain ⟨v, hv, hr⟩ := RelL.get h1 j k0 m3
      have : m0.key = v := by
        rw [List.getElem?_map, m4] at hv
        simpa using hv
      rw [this]
      exact (keyEq_same hx hr m5).symm
    have hkt := MapKept.run_keyThatStays (P := P) (w := w) hd4
    have hm4 : ms[j]? = some m0 := by simpa using m4
    refine ⟨_, setMap w r (ms.modify j fun e => { e with key := x, val := y }) clock, k1, hg.setMap hS hb ?_ ?_ (hborn.modify j x y), Adv.setMap hS hb _ _ _, ?_⟩
    · rw [List.map_set, Array.toList_modify, map_modify_key]
      exact RelL.set h1 j _ _ hx
    · rw [List.map_set, Array.toList_modify, map_modify_val]
      exact RelL.set h2 j _ _ hy
    · simp only [Instr.mapUpdate, Sem.run_bind, run_underlying hu, Result.andThen_ok, hgo, hck, hf, hm4, Option.map_some, Option.getD_some, hkey, hkt, MapKept.run_setObj_map (P := P) _ hb]
      rfl
  · have hf := MapKept.run_findKey (P := P) (w := w) hd m1
    refine ⟨_, setMap w r (ms.push { key := x, val := y, born := clock }) (clock + 1), k1, hg.setMap hS hb ?_ ?_ (hborn.push x y), Adv.setMap hS hb _ _ _, ?_⟩
    · simp only [List.map_append, Array.toList_push, List.map_cons, List.map_nil]
      exact RelL.append h1 (by simp only [RelL]; exact ⟨_, _, rfl, hx, rfl⟩)
    · simp only [List.map_append, Array.toList_push, List.map_cons, List.map_nil]
      exact RelL.append h2 (by simp only [RelL]; exact ⟨_, _, rfl, hy, rfl⟩)
    · simp only [Instr.mapUpdate, Sem.run_bind, run_underlying hu, Result.andThen_ok, hgo, hck, hf, MapKept.run_setObj_map (P := P) _ hb]
      rfl
theorem lookup_sound (hT : TyOk P C) {w : World} {S : St} (hg : Good C w S) {t kt et : Nat} (hk : (C.T t).kind = .map kt et) {kk : AV} {x : Value} (hx : Rel w (rdOf S) kk x) (hok : keyOk C kt kk = true) (hke : known C et = true)
    {m : Value} {es : List (AV × AV)} (hm : (m = .map none ∧ es = []) ∨ ∃ r, m = .map (some r) ∧ S r = some (.mapo es)) {K : AV → Prop} {Kn : Prop} (h : aFindK kk es K Kn) (ok : Bool) :
    (∃ v u, K v ∧ Rel w (rdOf S) v u ∧ (Instr.lookup t m x ok).run P w = .ok (if ok then .tuple #[u, .bool true] else u) w) ∨ (Kn ∧ (Instr.lookup t m x ok).run P w = .ok (if ok then .tuple #[(C.T et).zero, .bool false] else (C.T et).zero) w) := by
  have hu := und_map hT hk
  obtain ⟨d, hd, hd2, hd3, hd4⟩ := keyOk_kind (P := P) hT hok hx
  obtain ⟨z1, _⟩ := zero_sound (P := P) hT hke w (rdOf S)
  rcases hm with ⟨rfl, rfl⟩ | ⟨r, rfl, hS⟩
  · have hck : ∀ e, (Instr.checkKey e 10000 kt x).run P w = .ok () w := fun e => MapKept.run_checkKey hd hd4 e 9999
    have hf := MapKept.run_findKey (P := P) (w := w) (k := x) (l := []) (a := none) hd (by rfl)
    refine .inr ⟨h, ?_⟩
    simp only [Instr.lookup, Sem.run_bind, run_underlying hu, Result.andThen_ok, Sem.run_pure, hck, hf, z1]
  · obtain ⟨ms, clock, hb, h1, h2, hborn⟩ := hg.1 r _ hS
    have hgo := MapKept.run_getObj_map (P := P) hb
    have hck : ∀ e, (Instr.checkKey e 10000 kt x).run P w = .ok () w := fun e => MapKept.run_checkKey hd hd4 e 9999
    rcases aFindK_sound hd2 hd3 hx es ms.toList 0 h1 h2 h with ⟨j, v, u, m1, m2, m3⟩ | ⟨m1, m2⟩
    · have hf := MapKept.run_findKey (P := P) (w := w) hd m1
      refine .inl ⟨v, u, m2, m3, ?_⟩
      simp only [Instr.lookup, Sem.run_bind, run_underlying hu, Result.andThen_ok, Sem.run_pure, hgo, hck, hf]
    · have hf := MapKept.run_findKey (P := P) (w := w) hd m1
      refine .inr ⟨m2, ?_⟩
      simp only [Instr.lookup, Sem.run_bind, run_underlying hu, Result.andThen_ok, Sem.run_pure, hgo, hck, hf, z1]
theorem Adv.setMiter {w : World} {S : St} {b : Nat} {cur : Option (AV × AV)} {left : List (AV × AV)} {m : Option Nat} {since last : Nat} {seen : Array Nat} (hS : S b = some (.miter cur left)) (hb : w.heap[b]? = some (.mapIter m since seen last)) (cur' : Option (AV × AV)) (left' : List (AV × AV)) (o : Obj) (ho : ∀ cs e f, o ≠ .cells cs e f) :
    Adv w S { w with heap := w.heap.setIfInBounds b o } (S.upd b (.miter cur' left')) := by
  have hother : ∀ x, x ≠ b → (w.heap.setIfInBounds b o)[x]? = w.heap[x]? := fun x hx => by simp [Array.getElem?_setIfInBounds_ne (Ne.symm hx)]
  refine ⟨rfl, rfl, rfl, by simp, fun x hx hn => ?_, fun x off hx hr => ?_, fun x e' n hx => ?_⟩
  · have hne : x ≠ b := St.ne_of' hn hS
    exact ⟨by rw [St.upd_ne _ _ _ _ hne]; exact hn, hother x hne⟩
  · have hne : x ≠ b := by rintro rfl; simp only [rdOf, hS] at hr
    refine ⟨by simp only [rdOf, St.upd_ne _ _ _ _ hne]; exact hr, cell_of_block (hother x hne) off⟩
  · by_cases hne : x = b
    · subst hne
      simp only [World.shape?, hb] at hx
      cases hx
    · rw [shape_of_block (w' := { w with heap := w.heap.setIfInBounds b o }) (hother x hne)]; exact hx
theorem filter_push (l : List MapEntry) (seen : Array Nat) (e : MapEntry) (hn : (l.map (·.born)).Nodup) : ∀ pre post, (l.filter fun x => !seen.contains x.born) = pre ++ e :: post → (l.filter fun x => !(seen.push e.born).contains x.born) = pre ++ post := by
  intro pre post h
  have h1 : (l.filter fun x => !(seen.push e.born).contains x.born) = (l.filter fun x => !seen.contains x.born).filter fun x => x.born != e.born := by
    rw [List.filter_filter]
    congr 1
    funext x
    simp only [Array.contains_push]
    cases seen.contains x.born <;> simp [bne]
  rw [h1, h]
  have hsub : ((pre ++ e :: post).map (·.born)).Nodup := by
    rw [← h]
    exact List.Nodup.sublist (List.Sublist.map _ List.filter_sublist) hn
  simp only [List.map_append, List.map_cons] at hsub
  have hnd := List.nodup_append.1 hsub
  have hc := List.nodup_cons.1 hnd.2.1
  rw [List.filter_append, List.filter_cons]
  have e1 : (pre.filter fun x => x.born != e.born) = pre := List.filter_eq_self.2 fun x hx => by
    have := hnd.2.2 x.born (List.mem_map.2 ⟨x, hx, rfl⟩) e.born (by simp)
    simpa using this
  have e2 : (post.filter fun x => x.born != e.born) = post := List.filter_eq_self.2 fun x hx => by
    have : x.born ≠ e.born := fun hh => hc.1 (by rw [← hh]; exact List.mem_map.2 ⟨x, hx, rfl⟩)
    simpa using this
  rw [e1, e2]
  simp
theorem next_map_sound {w : World} {S : St} (hg : Good C w S) {b : Nat} {cur : Option (AV × AV)} {left : List (AV × AV)} (hS : S b = some (.miter cur left)) (ty : TypeId) {K : AV → St → Prop}
    (h0 : left = [] → K (.tu [.bool false]) S) (h1 : ∀ pre kv post, left = pre ++ kv :: post → K (.tu [.bool true, kv.1, kv.2]) (S.upd b (.miter (some kv) (pre ++ post)))) :
    ∃ z v w' S', K z S' ∧ Rel w' (rdOf S') z v ∧ Good C w' S' ∧ Adv w S w' S' ∧ (Instr.next (.pointer (some ⟨b, 0, none⟩)) false ty).run P w = .ok v w' := by
  obtain ⟨m, since, seen, last, hb, hm⟩ := hg.1 b _ hS
  cases m with
  | none =>
    have hl : left = [] := hm.1
    refine ⟨_, .tuple #[.bool false], w, S, h0 hl, by simp [Rel, RelL], hg, Adv.refl w S, ?_⟩
    simp [Instr.next, getObj, Sem.run, hb]
  | some r =>
    obtain ⟨m1, ms, m2, m3, m4, m5, m6, m7⟩ := hm
    subst m3
    have hborn : ∀ x ∈ ms.toList, x.born < last := m4.1
    rcases run_next_at (P := P) w ty b r last last seen ms last hb m2 hborn (Nat.le_refl _) with ⟨k1, k2⟩ | ⟨e, he, w1, hw1, k2⟩
    · have hf : (ms.toList.filter fun e => !seen.contains e.born) = [] := by
        have : (leftOf ms seen).toList.length = 0 := by simpa using k1
        unfold leftOf at this
        rw [Array.toList_filter] at this
        exact List.eq_nil_of_length_eq_zero this
      rw [hf] at m5
      have hl : left = [] := by
        have := RelL.length m5
        exact List.eq_nil_of_length_eq_zero (by simpa using this)
      exact ⟨_, .tuple #[.bool false], w, S, h0 hl, by simp [Rel, RelL], hg, Adv.refl w S, k2⟩
    · have he' : e ∈ ms.toList.filter fun e => !seen.contains e.born := by
        unfold leftOf at he
        rwa [Array.toList_filter] at he
      obtain ⟨vpre, vpost, hsplit⟩ := List.append_of_mem he'
      have hlen : left.length = (vpre ++ e :: vpost).length := by
        rw [← hsplit]; simpa using RelL.length m5
      have hlt : vpre.length < left.length := by rw [hlen]; simp
      have hleft : left = left.take vpre.length ++ left[vpre.length] :: left.drop (vpre.length + 1) := by
        rw [← List.drop_eq_getElem_cons hlt, List.take_append_drop]
      have hgetk := RelL.get m5 vpre.length left[vpre.length].1 (by simp [hlt])
      have hgetv := RelL.get m6 vpre.length left[vpre.length].2 (by simp [hlt])
      rw [hsplit] at hgetk hgetv
      simp at hgetk hgetv
      have hgw1 : Good C w1 S ∧ Adv w S w1 S ∧ w1.heap = w.heap := by
        rcases hw1 with rfl | rfl
        · exact ⟨hg, Adv.refl _ _, rfl⟩
        · exact ⟨hg.drew, (Adv.refl w S).drew, rfl⟩
      obtain ⟨g1, g2, g3⟩ := hgw1
      have hb1 : w1.heap[b]? = some (.mapIter (some r) last seen last) := by rw [g3]; exact hb
      have hadv := Adv.setMiter hS hb1 (some left[vpre.length]) (left.take vpre.length ++ left.drop (vpre.length + 1)) (.mapIter (some r) last (seen.push e.born) last) (fun _ _ _ h => by cases h)
      have hbr : r ≠ b := fun hh => by rw [hh, hb] at m2; cases m2
      have hk := h1 _ _ _ hleft
      refine ⟨_, _, _, _, hk, ?_, ?_, g2.trans hadv, k2⟩
      · simp only [Rel, RelL]
        refine ⟨_, rfl, _, _, rfl, rfl, _, _, rfl, ?_, _, _, rfl, ?_, rfl⟩
        · exact Rel.mono (g2.trans hadv) _ _ hgetk
        · exact Rel.mono (g2.trans hadv) _ _ hgetv
      · refine g1.mk (fun x o ho => ?_) hadv
        by_cases hx : x = b
        · subst hx
          rw [St.upd_same] at ho
          cases ho
          refine ⟨some r, last, seen.push e.born, last, ?_, fun off => ?_, ms, ?_, rfl, m4, ?_, ?_, fun kv hkv => ?_⟩
          · have : x < w1.heap.size := lt_of_block hb1
            simp [ChangeMaps.setBlock, this]
          · simp only [rdOf, St.upd_ne _ _ _ _ hbr]; exact m1 off
          · simp only [ChangeMaps.setBlock]
            rw [Array.getElem?_setIfInBounds_ne (Ne.symm hbr), g3]; exact m2
          · rw [filter_push ms.toList seen e m4.2 vpre vpost hsplit]
            rw [hsplit] at m5
            rw [List.map_append, List.map_append]
            refine RelL.append ?_ ?_
            · have := RelL.take (RelL.mono (g2.trans hadv) _ _ m5) vpre.length
              rw [List.map_append, List.take_left' (by simp)] at this
              rwa [List.map_take]
            · have := RelL.drop (RelL.mono (g2.trans hadv) _ _ m5) (vpre.length + 1)
              have e1 : ((vpre ++ e :: vpost).map (·.key)).drop (vpre.length + 1) = vpost.map (·.key) := by
                rw [List.map_append, List.map_cons, ← List.singleton_append, ← List.append_assoc]
                exact List.drop_left' (by simp)
              rw [e1] at this
              rwa [List.map_drop]
          · rw [filter_push ms.toList seen e m4.2 vpre vpost hsplit]
            rw [hsplit] at m6
            rw [List.map_append, List.map_append]
            refine RelL.append ?_ ?_
            · have := RelL.take (RelL.mono (g2.trans hadv) _ _ m6) vpre.length
              rw [List.map_append, List.take_left' (by simp)] at this
              rwa [List.map_take]
            · have := RelL.drop (RelL.mono (g2.trans hadv) _ _ m6) (vpre.length + 1)
              have e1 : ((vpre ++ e :: vpost).map (·.val)).drop (vpre.length + 1) = vpost.map (·.val) := by
                rw [List.map_append, List.map_cons, ← List.singleton_append, ← List.append_assoc]
                exact List.drop_left' (by simp)
              rw [e1] at this
              rwa [List.map_drop]
          · simp only [Option.some.injEq] at hkv
            subst hkv
            exact ⟨e, (List.mem_filter.1 he').1, by simp, Rel.mono (g2.trans hadv) _ _ hgetk, Rel.mono (g2.trans hadv) _ _ hgetv⟩
        · rw [St.upd_ne _ _ _ _ hx] at ho
          refine OwnOk.mono hadv ?_ (g1.1 x o ho)
          simp only [ChangeMaps.setBlock]
          exact Array.getElem?_setIfInBounds_ne (Ne.symm hx)
theorem born_same {l : List MapEntry} (hn : (l.map (·.born)).Nodup) {e f : MapEntry} (he : e ∈ l) (hf : f ∈ l) (h : e.born = f.born) : e = f := by
  induction l with
  | nil => cases he
  | cons x l ih =>
    simp only [List.map_cons] at hn
    have hc := List.nodup_cons.1 hn
    rcases List.mem_cons.1 he with he' | he' <;> rcases List.mem_cons.1 hf with hf' | hf'
    · rw [he', hf']
    · exact absurd (by rw [← he', h]; exact List.mem_map_of_mem hf') hc.1
    · exact absurd (by rw [← hf', ← h]; exact List.mem_map_of_mem he') hc.1
    · exact ih hc.2 he' hf'
theorem entry_map_sound {w : World} {S : St} (hg : Good C w S) {b : Nat} {kv : AV × AV} {left : List (AV × AV)} (hS : S b = some (.miter (some kv) left)) :
    ∃ v, Rel w (rdOf S) (.tu [kv.1, kv.2]) v ∧ (Instr.entry (.pointer (some ⟨b, 0, none⟩))).run P w = .ok v w := by
  obtain ⟨m, since, seen, last, hb, hm⟩ := hg.1 b _ hS
  cases m with
  | none => exact absurd hm.2 (by simp)
  | some r =>
    obtain ⟨m1, ms, m2, m3, m4, m5, m6, m7⟩ := hm
    subst m3
    obtain ⟨e, e1, e2, e3, e4⟩ := m7 kv rfl
    refine ⟨.tuple #[e.key, e.val], by simp only [Rel, RelL]; exact ⟨_, rfl, _, _, rfl, e3, _, _, rfl, e4, rfl⟩, ?_⟩
    have hf : ms.find? (·.born == e.born) = some e := by
      rw [← Array.find?_toList]
      cases hx : ms.toList.find? (·.born == e.born) with
      | none =>
        have := List.find?_eq_none.1 hx e e1
        simp at this
      | some f =>
        have hp := List.find?_some hx
        have hmem := List.mem_of_find?_eq_some hx
        rw [born_same m4.2 hmem e1 (by simpa using hp)]
    simp only [Instr.entry, getObj, Sem.run_bind, Sem.run, hb, m2, Result.andThen, e2, bne_self_eq_false, Bool.false_eq_true, if_false, hf]
    rfl
end
end Go.Proofs.YtikkoaoibomofaaGreatDoor.Aw

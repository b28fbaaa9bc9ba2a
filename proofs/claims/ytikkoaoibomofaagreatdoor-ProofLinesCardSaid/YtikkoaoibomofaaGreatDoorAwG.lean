/-
  The abstract walk is sound: operations that write or make memory. No condition.
-/
import Derived.Test.YtikkoaoibomofaaGreatDoorAwF
set_option linter.unusedVariables false
set_option linter.unusedSimpArgs false
namespace Go.Proofs.YtikkoaoibomofaaGreatDoor.Aw
open Go Go.RowKit

section
variable {P : Program} {C : Cx}
theorem obj_cells {w : World} {S : St} (hi : Inv w S) {b : Nat} {e : TypeId} {cells : List AV} (hS : S b = some (.obj e cells)) :
    ∃ cs : Array Value, w.heap[b]? = some (.cells cs e (0, 0)) ∧ RelL w (rdOf S) cells cs.toList ∧ (∀ v ∈ cs.toList, v.oneCell' = true) ∧ CellsAt w b 0 cs.toList := by
  obtain ⟨cs, h1, h2, h3⟩ := hi b _ hS
  refine ⟨cs, h1, h2, h3, fun i v hv => ?_⟩
  rw [Nat.zero_add, cell_of_row w b i cs e (0, 0) h1]
  simpa using hv
theorem aLoad_sound (hT : TyOk P C) {w : World} {S : St} (hi : Inv w S) {t : TypeId} {p : AV} {x : Value} (hx : Rel w (rdOf S) p x) {K : AV → Prop} (h : aLoad C t p S K) :
    ∃ z v, K z ∧ Rel w (rdOf S) z v ∧ (Instr.loadAt t x).run P w = .ok v w := by
  unfold aLoad at h
  split at h
  · rw [when_iff] at h
    obtain ⟨hk, h⟩ := h
    simp only [Rel] at hx
    obtain ⟨b, off, rfl, hr⟩ := hx
    obtain ⟨vs, h1, h2, h3, _⟩ := RelAt.cells hr
    obtain ⟨z, v, k1, k2, k3⟩ := aPart_load (P := P) hT hk h1 h2 h3 h
    exact ⟨z, v, k1, k3, by simpa [Instr.loadAt, Instr.sureAddr] using k2⟩
  · rw [when_iff] at h
    obtain ⟨hk, e, cells, hS, h⟩ := h
    simp only [Rel] at hx
    subst hx
    obtain ⟨cs, h1, h2, h3, h4⟩ := obj_cells hi hS
    obtain ⟨z, v, k1, k2, k3⟩ := aPart_load (P := P) hT hk h2 h4 h3 h
    exact ⟨z, v, k1, k3, by simpa [Instr.loadAt, Instr.sureAddr] using k2⟩
  · exact h.elim
theorem aStore_sound (hT : TyOk P C) {w : World} {S : St} (hg : Good C w S) {t : TypeId} {p q : AV} {x y : Value} (hx : Rel w (rdOf S) p x) (hy : Rel w (rdOf S) q y) {K : St → Prop} (h : aStore C t p q S K) :
    ∃ w' S', K S' ∧ Good C w' S' ∧ Adv w S w' S' ∧ (Instr.storeAt t x y).run P w = .ok () w' := by
  unfold aStore at h
  split at h
  · rename_i b off
    rw [when_iff] at h
    obtain ⟨hk, e, cells, hS, h⟩ := h
    rw [when_iff, forceL_eq] at h
    obtain ⟨hl, h⟩ := h
    simp only [Bool.and_eq_true] at hk
    obtain ⟨hk, ho, hsz⟩ := hk
    have hsz := Nat.eq_of_beq_eq_true hsz
    have hl := Nat.le_of_ble_eq_true hl
    simp only [Rel] at hx; subst hx
    obtain ⟨cs, h1, h2, h3, h4⟩ := obj_cells hg.1 hS
    obtain ⟨m1, m2⟩ := RelL_cellsOf hy ho
    have hlen := RelL.length m1
    have hclen := RelL.length h2
    have hcs : cs.size = cells.length := by simpa using hclen.symm
    have hst := run_storeCells_at P b off e y.cells.toList 0 cs w h1 (by rw [← hlen, hsz, hcs]; simpa using hl) m2
    have hysz : y.cells.size = (C.T t).size := by rw [← hsz, hlen]; simp
    simp only [Nat.add_zero] at hst
    have hsame : (cs.toList.take off ++ y.cells.toList ++ cs.toList.drop (off + y.cells.toList.length)).toArray.size = cs.size := by
      simp only [List.size_toArray, List.length_append, List.length_take, List.length_drop, Array.length_toList]
      rw [hysz, hcs]; omega
    have hadv := Adv.setRow (cells' := setRange cells off (cellsOf q)) hS h1 hsame
    refine ⟨_, _, h, hg.mk ?_ hadv, hadv, ?_⟩
    · intro b' o ho'
      by_cases hb : b' = b
      · subst hb
        rw [St.upd_same] at ho'
        cases ho'
        refine ⟨_, setRow_heap w b' cs _ e (0, 0) h1, ?_, ?_⟩
        · have := RelL.setRange (off := off) (RelL.mono hadv _ _ m1) (RelL.mono hadv _ _ h2) (by rw [hsz]; exact hl)
          simpa using this
        · intro u hu
          simp only [List.mem_append] at hu
          rcases hu with (hu | hu) | hu
          · exact h3 u (List.mem_of_mem_take hu)
          · exact m2 u hu
          · exact h3 u (List.mem_of_mem_drop hu)
      · rw [St.upd_ne _ _ _ _ hb] at ho'
        exact OwnOk.mono hadv (setRow_other w b b' _ hb) (hg.1 b' o ho')
    · simp only [Instr.storeAt, Instr.sureAddr, storeVar, Sem.run_bind, run_size hT hk, Result.andThen_ok, Sem.run_pure]
      rw [if_neg (by simp [hysz])]
      exact hst
  · exact h.elim
/-- A new row of cells. -/
theorem newObj_sound {w : World} {S : St} (hg : Good C w S) {e : TypeId} {cells : List AV} {cs : Array Value} (hr : RelL w (rdOf S) cells cs.toList) (h1 : ∀ v ∈ cs.toList, v.oneCell' = true) :
    S w.heap.size = none ∧ Good C (w.alloc (.cells cs e)) (S.upd w.heap.size (.obj e cells)) ∧ Adv w S (w.alloc (.cells cs e)) (S.upd w.heap.size (.obj e cells)) := by
  have hS := hg.1.fresh
  have hadv := Adv.allocOwn (.cells cs e) (.obj e cells) hS
  refine ⟨hS, hg.mk (hg.1.allocOwn _ _ ⟨cs, heap_alloc_new w _, RelL.mono hadv _ _ hr, h1⟩) hadv, hadv⟩
theorem foldl_set (off : Nat) : ∀ (l : List Value) (k : Nat) (cs : Array Value), off + k + l.length ≤ cs.size →
    (((l.zipIdx k).foldl (fun cs (x : Value × Nat) => cs.setIfInBounds (off + x.2) x.1) cs).toList = cs.toList.take (off + k) ++ l ++ cs.toList.drop (off + k + l.length))
  | [], k, cs, h => by simp
  | v :: l, k, cs, h => by
    have hi : off + k < cs.size := by simp at h; omega
    rw [List.zipIdx_cons, List.foldl_cons]
    have := foldl_set off l (k + 1) (cs.setIfInBounds (off + k) v) (by simp at h ⊢; omega)
    rw [this]
    have e1 : (cs.setIfInBounds (off + k) v).toList = cs.toList.set (off + k) v := by simp
    rw [e1]
    have e2 : (cs.toList.set (off + k) v).take (off + (k + 1)) = cs.toList.take (off + k) ++ [v] := by
      rw [← Nat.add_assoc, List.take_add_one, List.take_set_of_le (Nat.le_refl _)]
      simp [List.getElem?_set, hi]
    have e3 : (cs.toList.set (off + k) v).drop (off + (k + 1) + l.length) = cs.toList.drop (off + k + (v :: l).length) := by
      rw [List.drop_set_of_lt (by omega)]
      simp
      congr 1
      omega
    rw [e2, e3]
    simp
theorem aFill_sound {w : World} {rd} (place : Nat → Option (Nat × Nat)) : ∀ (parts : List (Nat × AV)) (vparts : List (Nat × Value)) (cells : List AV) (cs : Array Value) (out : List AV),
    RelL w rd (parts.map (·.2)) (vparts.map (·.2)) → parts.map (·.1) = vparts.map (·.1) → RelL w rd cells cs.toList → (∀ v ∈ cs.toList, v.oneCell' = true) → aFill place cells parts = some out →
    ∃ cs', Instr.fill place cs vparts = some cs' ∧ RelL w rd out cs'.toList ∧ (∀ v ∈ cs'.toList, v.oneCell' = true)
  | [], vparts, cells, cs, out, hp, hi, hr, h1, h => by
    simp only [aFill, Option.some.injEq] at h
    subst h
    cases vparts with
    | nil => exact ⟨cs, rfl, hr, h1⟩
    | cons => simp at hi
  | (i, x) :: r, vparts, cells, cs, out, hp, hi, hr, h1, h => by
    cases vparts with
    | nil => simp at hi
    | cons vp vr =>
      obtain ⟨j, v⟩ := vp
      simp only [List.map_cons, List.cons.injEq] at hi
      obtain ⟨rfl, hi⟩ := hi
      simp only [List.map_cons, RelL] at hp
      obtain ⟨u, us, he, hx, hp⟩ := hp
      simp only [List.cons.injEq] at he
      obtain ⟨rfl, rfl⟩ := he
      simp only [aFill] at h
      cases hpl : place i with
      | none => rw [hpl] at h; cases h
      | some q =>
        obtain ⟨off, size⟩ := q
        rw [hpl] at h
        simp only [cond_eq_ite, Bool.and_eq_true] at h
        split at h
        · rename_i hc
          obtain ⟨ho, hs, hl⟩ := hc
          have hs := Nat.eq_of_beq_eq_true hs
          have hl := Nat.le_of_ble_eq_true hl
          obtain ⟨m1, m2⟩ := RelL_cellsOf hx ho
          have hlen := RelL.length m1
          have hclen := RelL.length hr
          have hcs : cs.size = cells.length := by simpa using hclen.symm
          have hvsz : v.cells.size = size := by rw [← hs, hlen]; simp
          have hfold : ((v.cells.zipIdx.foldl (fun cs (x : Value × Nat) => cs.setIfInBounds (off + x.2) x.1) cs).toList = cs.toList.take off ++ v.cells.toList ++ cs.toList.drop (off + v.cells.toList.length)) := by
            have := foldl_set off v.cells.toList 0 cs (by simp [hvsz, hcs]; exact hl)
            simp only [Nat.add_zero] at this
            rw [← this, ← Array.foldl_toList, Array.toList_zipIdx]
          have hnew : RelL w rd (setRange cells off (cellsOf x)) (v.cells.zipIdx.foldl (fun cs (x : Value × Nat) => cs.setIfInBounds (off + x.2) x.1) cs).toList := by
            rw [hfold]
            exact RelL.setRange m1 hr (by rw [hs]; exact hl)
          have hnew1 : ∀ u ∈ (v.cells.zipIdx.foldl (fun cs (x : Value × Nat) => cs.setIfInBounds (off + x.2) x.1) cs).toList, u.oneCell' = true := by
            rw [hfold]
            intro u hu
            simp only [List.mem_append] at hu
            rcases hu with (hu | hu) | hu
            · exact h1 u (List.mem_of_mem_take hu)
            · exact m2 u hu
            · exact h1 u (List.mem_of_mem_drop hu)
          obtain ⟨cs', k1, k2, k3⟩ := aFill_sound place r vr _ _ out hp hi hnew hnew1 h
          refine ⟨cs', ?_, k2, k3⟩
          simp only [Instr.fill, hpl]
          rw [if_neg (by simp [hvsz, hcs]; omega)]
          exact k1
        · cases h
theorem places_of (hT : TyOk P C) : ∀ (fs : List Field), (fs.all fun f => known C f.type) = true → fs.mapM (fun f => (P.info? f.type).map fun i => (f.offset, i.size)) = some (fs.map fun f => (f.offset, (C.T f.type).size))
  | [], _ => rfl
  | f :: fs, h => by
    simp only [List.all_cons, Bool.and_eq_true] at h
    obtain ⟨i, d, hi, hs, _⟩ := ty_info hT h.1
    simp [List.mapM_cons, hi, hs, places_of hT fs h.2]
theorem zero_sound (hT : TyOk P C) {t : TypeId} (hk : known C t = true) (w : World) (rd) :
    (zeroValue t).run P w = .ok (C.T t).zero w ∧ RelL w rd (cellsOf (ofV (C.T t).zero)) (C.T t).zero.cells.toList ∧ (∀ v ∈ (C.T t).zero.cells.toList, v.oneCell' = true) ∧ (C.T t).zero.cells.size = (C.T t).size := by
  obtain ⟨i, d, hi, hs, hb, hz, hd, hk', h1, h2⟩ := ty_info hT hk
  have h3 : ∀ v ∈ (C.T t).zero.cells.toList, v.oneCell' = true := fun v hv => List.all_eq_true.1 h2 v hv
  refine ⟨by simp [zeroValue, typeInfo, hi, hz], ?_, h3, h1⟩
  have hr := Rel_ofV w rd (C.T t).zero
  have hok : okCells (ofV (C.T t).zero) = true ∨ ∃ v, (C.T t).zero = v ∧ v.cells = #[v] ∧ cellsOf (ofV v) = [ofV v] := by
    cases hz : (C.T t).zero with
    | agg cs =>
      left
      rw [hz] at h2
      simp only [ofV]
      rw [if_pos (by simpa [Value.cells] using h2)]; rfl
    | _ => 
      right
      refine ⟨_, rfl, rfl, ?_⟩
      simp only [ofV]
      unfold ofV0
      split <;> rfl
  rcases hok with hok | ⟨v, e1, e2, e3⟩
  · exact (RelL_cellsOf hr hok).1
  · rw [e1] at hr ⊢
    rw [e2, e3]
    simp only [RelL]
    exact ⟨v, [], rfl, hr, rfl⟩
theorem rows_len {k : Nat} : ∀ (cells : List AV) (n : Nat), cells.length = n * k → (∀ e ∈ rowsOf k cells n, e.length = k) ∧ (rowsOf k cells n).flatten = cells ∧ (rowsOf k cells n).length = n
  | cells, 0, h => by simp at h; subst h; simp [rowsOf]
  | cells, n + 1, h => by
    rw [Nat.succ_mul] at h
    obtain ⟨h1, h2, h3⟩ := rows_len (k := k) (cells.drop k) n (by rw [List.length_drop]; omega)
    refine ⟨fun e he => ?_, ?_, by simp [rowsOf, h3]⟩
    · simp only [rowsOf, List.mem_cons] at he
      rcases he with rfl | he
      · rw [List.length_take]; omega
      · exact h1 e he
    · simp only [rowsOf, List.flatten_cons, h2, List.take_append_drop]
theorem RelL.of_get {w : World} {rd} : ∀ {xs : List AV} {vs : List Value}, xs.length = vs.length → (∀ (i : Nat) (x : AV) (v : Value), xs[i]? = some x → vs[i]? = some v → Rel w rd x v) → RelL w rd xs vs
  | [], vs, hl, h => by simp only [RelL]; exact List.eq_nil_of_length_eq_zero (by simpa using hl.symm)
  | x :: xs, [], hl, h => by simp at hl
  | x :: xs, v :: vs, hl, h => by
    simp only [RelL]
    exact ⟨v, vs, rfl, h 0 x v rfl rfl, RelL.of_get (by simpa using hl) fun i x' v' h1 h2 => h (i + 1) x' v' (by simpa using h1) (by simpa using h2)⟩
theorem mulL_get {k : Nat} {xs : List AV} : ∀ (n i : Nat), i < n * xs.length → (mulL k xs n)[i]? = xs[i % xs.length]?
  | 0, i, h => by simp at h
  | n + 1, i, h => by
    simp only [mulL]
    rw [Nat.succ_mul] at h
    by_cases hi : i < xs.length
    · rw [List.getElem?_append_left hi, Nat.mod_eq_of_lt hi]
    · rw [List.getElem?_append_right (by omega), mulL_get n (i - xs.length) (by omega)]
      congr 1
      rw [Nat.mod_eq_sub_mod (by omega : i ≥ xs.length)]
theorem mulL_length {k : Nat} {xs : List AV} : ∀ n, (mulL k xs n).length = n * xs.length
  | 0 => by simp [mulL]
  | n + 1 => by simp only [mulL, List.length_append, mulL_length n, Nat.succ_mul]; omega
theorem zeros_sound {w : World} {rd} {xs : List AV} {zs : Array Value} (hr : RelL w rd xs zs.toList) (n : Nat) :
    RelL w rd (mulL 0 xs n) ((Array.range (n * zs.size)).map (zs[· % zs.size]!)).toList := by
  have hl := RelL.length hr
  have hl' : xs.length = zs.size := by simpa using hl
  refine RelL.of_get (by simp [mulL_length, hl']) fun i x v h1 h2 => ?_
  have hi : i < n * zs.size := by
    rcases Nat.lt_or_ge i (n * zs.size) with h | h
    · exact h
    · rw [List.getElem?_eq_none (by simp [mulL_length, hl', h])] at h1; cases h1
  rw [mulL_get n i (by rw [hl']; exact hi), hl'] at h1
  have hz : 0 < zs.size := by
    rcases Nat.eq_zero_or_pos zs.size with h | h
    · rw [h] at hi; simp at hi
    · exact h
  have hm : i % zs.size < zs.size := Nat.mod_lt _ hz
  obtain ⟨u, hu, hru⟩ := RelL.get hr _ x h1
  have e : v = u := by
    have h2' : zs[i % zs.size]! = v := by
      rw [Array.getElem?_toList, Array.getElem?_map, Array.getElem?_eq_getElem (by simpa using hi)] at h2
      simpa using h2
    rw [← h2']
    have hu' : zs[i % zs.size]? = some u := by simpa using hu
    rw [getElem!_pos zs _ hm]
    rw [Array.getElem?_eq_getElem hm] at hu'
    exact Option.some.inj hu'
  rw [e]; exact hru
theorem zeros_one {zs : Array Value} (h : ∀ v ∈ zs.toList, v.oneCell' = true) (n : Nat) : ∀ v ∈ ((Array.range (n * zs.size)).map (zs[· % zs.size]!)).toList, v.oneCell' = true := by
  intro v hv
  simp only [Array.toList_map, List.mem_map, Array.mem_toList_iff, Array.mem_range] at hv
  obtain ⟨i, hi, rfl⟩ := hv
  have hz : 0 < zs.size := by
    rcases Nat.eq_zero_or_pos zs.size with h | h
    · rw [h] at hi; simp at hi
    · exact h
  have hm : i % zs.size < zs.size := Nat.mod_lt _ hz
  rw [getElem!_pos zs _ hm]
  exact h _ (by simp)
end
end Go.Proofs.YtikkoaoibomofaaGreatDoor.Aw

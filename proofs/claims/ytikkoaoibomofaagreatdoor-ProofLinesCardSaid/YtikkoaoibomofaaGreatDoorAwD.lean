/-
  The abstract walk is sound: reading and writing memory. No condition.
-/
import Derived.Test.YtikkoaoibomofaaGreatDoorAwC
import Derived.Laws.CopyRow
set_option linter.unusedVariables false
set_option linter.unusedSimpArgs false
namespace Go.Proofs.YtikkoaoibomofaaGreatDoor.Aw
open Go Go.RowKit

def CellsAt (w : World) (b off : Nat) (vs : List Value) : Prop := ∀ i v, vs[i]? = some v → w.cell? ⟨b, off + i, none⟩ = some v
def RdAt (rd : Nat → Nat → Prop) (b off n : Nat) : Prop := ∀ i, i < n → rd b (off + i)

theorem RelAt.cells {w : World} {rd} {b : Nat} : ∀ {xs : List AV} {off : Nat}, RelAt w rd b off xs → ∃ vs, RelL w rd xs vs ∧ CellsAt w b off vs ∧ (∀ u ∈ vs, u.oneCell' = true) ∧ RdAt rd b off xs.length
  | [], off, h => ⟨[], by simp [RelL], fun i v hi => by simp at hi, by simp, fun i hi => absurd hi (by simp)⟩
  | x :: xs, off, h => by
    simp only [RelAt] at h
    obtain ⟨⟨v, ⟨h1, h2, h3⟩, hx⟩, hr⟩ := h
    obtain ⟨vs, k1, k2, k3, k4⟩ := RelAt.cells hr
    refine ⟨v :: vs, by simp only [RelL]; exact ⟨v, vs, rfl, hx, k1⟩, fun i u hi => ?_, fun u hu => ?_, fun i hi => ?_⟩
    · cases i with
      | zero => simp at hi; subst hi; exact h2
      | succ i =>
        simp at hi
        have := k2 i u hi
        rwa [show off + 1 + i = off + (i + 1) from by omega] at this
    · rcases List.mem_cons.1 hu with rfl | hu
      · exact h3
      · exact k3 u hu
    · cases i with
      | zero => exact h1
      | succ i =>
        have := k4 i (by simp at hi; omega)
        rwa [show off + 1 + i = off + (i + 1) from by omega] at this
theorem RelAt.of_cells {w : World} {rd} {b : Nat} : ∀ {xs : List AV} {vs : List Value} {off : Nat}, RelL w rd xs vs → CellsAt w b off vs → (∀ u ∈ vs, u.oneCell' = true) → RdAt rd b off xs.length → RelAt w rd b off xs
  | [], vs, off, h, hc, h1, hr => by simp [RelAt]
  | x :: xs, vs, off, h, hc, h1, hr => by
    simp only [RelL] at h
    obtain ⟨u, us, rfl, h2, h3⟩ := h
    simp only [RelAt]
    refine ⟨⟨u, ⟨hr 0 (by simp), hc 0 u rfl, h1 u (by simp)⟩, h2⟩, RelAt.of_cells h3 (fun i v hi => ?_) (fun u hu => h1 u (by simp [hu])) (fun i hi => ?_)⟩
    · have := hc (i + 1) v (by simpa using hi)
      rwa [show off + (i + 1) = off + 1 + i from by omega] at this
    · have := hr (i + 1) (by simp; omega)
      rwa [show off + (i + 1) = off + 1 + i from by omega] at this
theorem RelRows.cells {w : World} {rd} {k b : Nat} : ∀ {es : List (List AV)} {off : Nat}, RelRows w rd k b off es → ∃ vs, RelL w rd es.flatten vs ∧ CellsAt w b off vs ∧ (∀ u ∈ vs, u.oneCell' = true) ∧ RdAt rd b off (es.length * k) ∧ vs.length = es.length * k
  | [], off, h => ⟨[], by simp [RelL], fun i v hi => by simp at hi, by simp, fun i hi => absurd hi (by simp), by simp⟩
  | e :: es, off, h => by
    simp only [RelRows] at h
    obtain ⟨⟨hl, h1⟩, h2⟩ := h
    obtain ⟨vs, k1, k2, k3, k4⟩ := RelAt.cells h1
    obtain ⟨us, m1, m2, m3, m4, m5⟩ := RelRows.cells h2
    have hvl : vs.length = k := by rw [← RelL.length k1, hl]
    refine ⟨vs ++ us, by simpa using RelL.append k1 m1, fun i v hi => ?_, fun u hu => ?_, fun i hi => ?_, by simp [hvl, m5, Nat.succ_mul]; omega⟩
    · by_cases hik : i < k
      · rw [List.getElem?_append_left (by omega)] at hi
        exact k2 i v hi
      · rw [List.getElem?_append_right (by omega), hvl] at hi
        have := m2 (i - k) v hi
        rwa [show off + k + (i - k) = off + i from by omega] at this
    · rcases List.mem_append.1 hu with hu | hu
      · exact k3 u hu
      · exact m3 u hu
    · by_cases hik : i < k
      · exact k4 i (by omega)
      · have := m4 (i - k) (by simp [Nat.succ_mul] at hi; omega)
        rwa [show off + k + (i - k) = off + i from by omega] at this
theorem RelRows.of_cells {w : World} {rd} {k b : Nat} : ∀ {es : List (List AV)} {vs : List Value} {off : Nat}, (∀ e ∈ es, e.length = k) → RelL w rd es.flatten vs → CellsAt w b off vs → (∀ u ∈ vs, u.oneCell' = true) → RdAt rd b off (es.length * k) → RelRows w rd k b off es
  | [], vs, off, hl, h, hc, h1, hr => by simp [RelRows]
  | e :: es, vs, off, hl, h, hc, h1, hr => by
    have hel : e.length = k := hl e (by simp)
    simp only [List.flatten_cons] at h
    have ht := RelL.take h k
    have hd := RelL.drop h k
    rw [List.take_left' hel] at ht
    rw [List.drop_left' hel] at hd
    simp only [RelRows]
    refine ⟨⟨hel, RelAt.of_cells ht (fun i v hi => ?_) (fun u hu => h1 u (List.mem_of_mem_take hu)) (fun i hi => ?_)⟩, RelRows.of_cells (fun e he => hl e (by simp [he])) hd (fun i v hi => ?_) (fun u hu => h1 u (List.mem_of_mem_drop hu)) (fun i hi => ?_)⟩
    · rw [List.getElem?_take] at hi
      split at hi
      · exact hc i v hi
      · cases hi
    · exact hr i (by simp [Nat.succ_mul]; omega)
    · rw [List.getElem?_drop] at hi
      have := hc _ v hi
      rwa [show off + (k + i) = off + k + i from by omega] at this
    · have := hr (k + i) (by simp [Nat.succ_mul]; omega)
      rwa [show off + (k + i) = off + k + i from by omega] at this

section
variable {P : Program} {C : Cx}
theorem run_loadCells_at (w : World) (b off : Nat) (vs : List Value) (h : CellsAt w b off vs) : (loadCells ⟨b, off, none⟩ vs.length).run P w = .ok vs.toArray w :=
  run_loadCells_list w ⟨b, off, none⟩ vs fun j v hj => by rw [Addr.add_lit]; exact h j v hj
theorem aPart_load (hT : TyOk P C) {w : World} {rd} {t : TypeId} (hk : known C t = true) {b base off : Nat} {xs : List AV} {vs : List Value} (hr : RelL w rd xs vs) (hc : CellsAt w b base vs) (h1 : ∀ u ∈ vs, u.oneCell' = true)
    {K : AV → Prop} (h : aPart C t xs off K) : ∃ x v, K x ∧ (loadVar t ⟨b, base + off, none⟩).run P w = .ok v w ∧ Rel w rd x v := by
  unfold aPart at h
  unfold loadVar
  simp only [Sem.run_bind, run_isAgg hT hk, Result.andThen_ok]
  cases ha : (C.T t).agg with
  | true =>
    rw [ha] at h
    simp only [when_iff, forceL_eq] at h
    obtain ⟨hl, h⟩ := h
    have hl := Nat.le_of_ble_eq_true hl
    have hd : ((vs.drop off).take (C.T t).size).length = (C.T t).size := by
      rw [List.length_take, List.length_drop, ← RelL.length hr]; omega
    have hcc : CellsAt w b (base + off) ((vs.drop off).take (C.T t).size) := fun i v hi => by
      rw [List.getElem?_take] at hi
      split at hi
      · rw [List.getElem?_drop] at hi
        have := hc _ v hi
        rwa [← Nat.add_assoc] at this
      · cases hi
    have hrun := run_loadCells_at (P := P) w b (base + off) _ hcc
    rw [hd] at hrun
    refine ⟨_, .agg ((vs.drop off).take (C.T t).size).toArray, h, by simp [run_size hT hk, hrun], ?_⟩
    simp only [Rel]
    exact ⟨_, rfl, by simpa using RelL.take (RelL.drop hr off) _, fun u hu => h1 u (List.mem_of_mem_drop (List.mem_of_mem_take (by simpa using hu)))⟩
  | false =>
    rw [ha] at h
    cases hx : xs.drop off with
    | nil => rw [hx] at h; exact h.elim
    | cons x r =>
      rw [hx] at h
      simp only [force_eq] at h
      have hg : xs[off]? = some x := by
        have : (xs.drop off)[0]? = some x := by rw [hx]; rfl
        simpa using this
      obtain ⟨v, hv, hxv⟩ := RelL.get hr off x hg
      exact ⟨x, v, h, by simp [hc off v hv], hxv⟩
theorem aPart_part (hT : TyOk P C) {w : World} {rd} {t : TypeId} (hk : known C t = true) {off : Nat} {xs : List AV} {cs : Array Value} (hr : RelL w rd xs cs.toList) (h1 : ∀ u ∈ cs.toList, u.oneCell' = true)
    {K : AV → Prop} (h : aPart C t xs off K) : ∃ x v, K x ∧ (part t cs off).run P w = .ok v w ∧ Rel w rd x v := by
  unfold aPart at h
  unfold part
  simp only [Sem.run_bind, run_isAgg hT hk, Result.andThen_ok]
  cases ha : (C.T t).agg with
  | true =>
    rw [ha] at h
    simp only [when_iff, forceL_eq] at h
    obtain ⟨hl, h⟩ := h
    have hl := Nat.le_of_ble_eq_true hl
    refine ⟨_, .agg (cs.extract off (off + (C.T t).size)), h, by simp [run_size hT hk], ?_⟩
    have he : (cs.extract off (off + (C.T t).size)).toList = (cs.toList.drop off).take (C.T t).size := by
      rw [Array.toList_extract, List.extract_eq_take_drop]
      congr 1
      omega
    simp only [Rel]
    refine ⟨_, rfl, ?_, fun u hu => ?_⟩
    · rw [he]; exact RelL.take (RelL.drop hr off) _
    · rw [he] at hu; exact h1 u (List.mem_of_mem_drop (List.mem_of_mem_take hu))
  | false =>
    rw [ha] at h
    cases hx : xs.drop off with
    | nil => rw [hx] at h; exact h.elim
    | cons x r =>
      rw [hx] at h
      simp only [force_eq] at h
      have hg : xs[off]? = some x := by
        have : (xs.drop off)[0]? = some x := by rw [hx]; rfl
        simpa using this
      obtain ⟨v, hv, hxv⟩ := RelL.get hr off x hg
      have hv' : cs[off]? = some v := by simpa using hv
      exact ⟨x, v, h, by simp [hv'], hxv⟩
end

theorem setRange_length (cells : List AV) (off : Nat) (xs : List AV) : (setRange cells off xs).length = cells.length := by
  induction xs generalizing cells off with
  | nil => rfl
  | cons x xs ih => simp only [setRange, ih, List.length_set]
theorem RelL.setRange {w : World} {rd} : ∀ {xs : List AV} {vs : List Value} {cells : List AV} {cs : List Value} {off : Nat}, RelL w rd xs vs → RelL w rd cells cs → off + xs.length ≤ cells.length →
    RelL w rd (setRange cells off xs) (cs.take off ++ vs ++ cs.drop (off + vs.length))
  | [], vs, cells, cs, off, h, hc, hl => by simp only [RelL] at h; subst h; simpa [Aw.setRange] using hc
  | x :: xs, vs, cells, cs, off, h, hc, hl => by
    simp only [RelL] at h
    obtain ⟨u, us, rfl, h2, h3⟩ := h
    have hlen := RelL.length hc
    have hoff : off < cs.length := by simp at hl; omega
    have := RelL.setRange (off := off + 1) h3 (RelL.set hc off x u h2) (by simp at hl ⊢; omega)
    simp only [Aw.setRange]
    have e1 : (cs.set off u).take (off + 1) = cs.take off ++ [u] := by
      rw [List.take_add_one, List.take_set_of_le (Nat.le_refl _)]
      simp [List.getElem?_set, hoff]
    have e2 : (cs.set off u).drop (off + 1 + us.length) = cs.drop (off + (u :: us).length) := by
      rw [List.drop_set_of_lt (by omega)]
      simp
      congr 1
      omega
    rw [e1, e2] at this
    simpa using this

theorem Adv.setRow {w : World} {S : St} {b : Nat} {e : TypeId} {cells : List AV} (hS : S b = some (.obj e cells)) {old cs : Array Value} (hb : w.heap[b]? = some (.cells old e (0, 0))) (hsz : cs.size = old.size) (cells' : List AV) :
    Adv w S (w.setRow b cs) (S.upd b (.obj e cells')) := by
  have hother : ∀ x, x ≠ b → (w.setRow b cs).heap[x]? = w.heap[x]? := fun x hx => setRow_other w b x cs hx
  refine ⟨rfl, rfl, rfl, by simp [World.setRow], fun x hx hn => ?_, fun x off hx hr => ?_, fun x e' n hx => ?_⟩
  · have hne : x ≠ b := St.ne_of' hn hS
    exact ⟨by rw [St.upd_ne _ _ _ _ hne]; exact hn, hother x hne⟩
  · have hne : x ≠ b := by rintro rfl; simp only [rdOf, hS] at hr
    refine ⟨by simp only [rdOf, St.upd_ne _ _ _ _ hne]; exact hr, cell_of_block (hother x hne) off⟩
  · by_cases hne : x = b
    · subst hne
      simp only [World.shape?, hb] at hx
      simp only [World.shape?, setRow_heap w x old cs e (0, 0) hb]
      simpa [hsz] using hx
    · rw [shape_of_block (hother x hne)]; exact hx

end Go.Proofs.YtikkoaoibomofaaGreatDoor.Aw

/-
  The abstract walk is sound: append. No condition.
-/
import Derived.Test.YtikkoaoibomofaaGreatDoorAwG
set_option linter.unusedVariables false
set_option linter.unusedSimpArgs false
namespace Go.Proofs.YtikkoaoibomofaaGreatDoor.Aw
open Go Go.RowKit

section
variable {P : Program} {C : Cx}
theorem Adv.setTip {w : World} {S : St} {b : Nat} {e : TypeId} {k n m : Nat} (hS : S b = some (.tip e k n)) (hnm : n ≤ m) {old cs : Array Value} (hb : w.heap[b]? = some (.cells old e (0, 0))) (hsz : cs.size = old.size)
    (hpre : ∀ i, i < n * k → cs[i]? = old[i]?) : Adv w S (w.setRow b cs) ((S.del b).upd b (.tip e k m)) := by
  have hother : ∀ x, x ≠ b → (w.setRow b cs).heap[x]? = w.heap[x]? := fun x hx => setRow_other w b x cs hx
  have hS' : ∀ x, x ≠ b → ((S.del b).upd b (.tip e k m)) x = S x := fun x hx => by rw [St.upd_ne _ _ _ _ hx, St.del_ne _ _ _ hx]
  refine ⟨rfl, rfl, rfl, by simp [World.setRow], fun x hx hn => ?_, fun x off hx hr => ?_, fun x e' n' hx => ?_⟩
  · have hne : x ≠ b := St.ne_of' hn hS
    exact ⟨by rw [hS' x hne]; exact hn, hother x hne⟩
  · by_cases hne : x = b
    · subst hne
      simp only [rdOf, hS] at hr
      refine ⟨?_, ?_⟩
      · simp only [rdOf, St.upd_same]
        exact Nat.lt_of_lt_of_le hr (Nat.mul_le_mul_right _ hnm)
      · rw [cell_of_row _ x off _ e (0, 0) (setRow_heap w x old cs e (0, 0) hb), cell_of_row w x off old e (0, 0) hb]
        exact hpre off hr
    · refine ⟨?_, cell_of_block (hother x hne) off⟩
      simp only [rdOf, hS' x hne]; exact hr
  · by_cases hne : x = b
    · subst hne
      simp only [World.shape?, hb] at hx
      simp only [World.shape?, setRow_heap w x old cs e (0, 0) hb]
      simpa [hsz] using hx
    · rw [shape_of_block (hother x hne)]; exact hx
/-- What stands behind the second operand. -/
theorem src_cells {w : World} {rd} {sh : Sh} {k : Nat} {new : List (List AV)} {x : Value} (hx : Rel w rd (.sl sh k new) x) :
    (new = [] ∧ ∃ base cap, x = .slice base 0 cap) ∨ ∃ a cap news, x = .slice (some a) new.length cap ∧ news.length = new.length * k ∧ (∀ j u, news[j]? = some u → w.cell? (a.add j) = some u) ∧ (∀ u ∈ news, u.oneCell' = true) ∧ RelL w rd new.flatten news := by
  simp only [Rel] at hx
  rcases hx with ⟨_, rfl, rfl⟩ | ⟨b, off, cap, rfl, h1, h2, h3, h4⟩
  · exact .inl ⟨rfl, none, 0, rfl⟩
  · obtain ⟨vs, k1, k2, k3, k4, k5⟩ := RelRows.cells h4
    exact .inr ⟨⟨b, off, none⟩, cap, vs, rfl, k5, fun j u hj => by rw [Addr.add_lit]; exact k2 j u hj, k3, k1⟩
theorem append_nothing (hT : TyOk P C) {w : World} {t ty e : TypeId} (hk : (C.T t).kind = .slice e) (hke : known C e = true) (base : Option Addr) (n cap : Nat) (hn : n ≤ cap) (b2 : Option Addr) (c2 : Nat) :
    (Builtin.append_ #[t, t] ty #[.slice base n cap, .slice b2 0 c2]).run P w = .ok (.slice base n cap) w := by
  have hu := und_slice hT hk
  cases base <;> cases b2 <;> simp [Builtin.append_, run_underlying hu, run_size hT hke, Builtin.lenOf, hn, Builtin.firstCells, loadCells, loadCellsFrom, storeCells]
theorem zeroCells_one {zs : Array Value} (h : zs.toList.all Value.oneCell' = true) (n : Nat) : ∀ v ∈ (Builtin.zeroCells zs n).toList, v.oneCell' = true := by
  have := zeros_one (List.all_eq_true.1 h) n
  simpa [Builtin.zeroCells] using this
theorem ones_room {old news : List Value} (h : ∀ v ∈ old, v.oneCell' = true) (h' : ∀ v ∈ news, v.oneCell' = true) (a b : Nat) : ∀ v ∈ (old.take a ++ news ++ old.drop b).toArray.toList, v.oneCell' = true := fun v hv => by
  simp only [List.mem_append, List.toList_toArray] at hv
  rcases hv with (hv | hv) | hv
  · exact h v (List.mem_of_mem_take hv)
  · exact h' v hv
  · exact h v (List.mem_of_mem_drop hv)
/-- What append makes anew. -/
theorem grown_sound {w : World} {S : St} (hg : Good C w S) {e : TypeId} {k m cap : Nat} {rows : List (List AV)} {vs rest : List Value} (hrows : rows.length = m) (hlen : ∀ r ∈ rows, r.length = k) (hr : RelL w (rdOf S) rows.flatten vs) (h1 : ∀ u ∈ vs, u.oneCell' = true)
    (hvs : vs.length = m * k) (hcap : m ≤ cap) (hmax : cap ≤ maxLen) (hrest : rest.length = (cap - m) * k) (hone : ∀ u ∈ rest, u.oneCell' = true) {cur : Array Value} (hcur : cur.toList = vs ++ rest) :
    S w.heap.size = none ∧ Good C (w.drew.alloc (.cells cur e)) (S.upd w.heap.size (.tip e k m)) ∧ Adv w S (w.drew.alloc (.cells cur e)) (S.upd w.heap.size (.tip e k m)) ∧
      Rel (w.drew.alloc (.cells cur e)) (rdOf (S.upd w.heap.size (.tip e k m))) (.sl (.own w.heap.size) k rows) (.slice (some ⟨w.heap.size, 0, none⟩) m cap) := by
  have hS := hg.1.fresh
  have hsz : cur.size = cap * k := by
    have : cur.toList.length = cap * k := by
      rw [hcur, List.length_append, hvs, hrest, ← Nat.add_mul]
      congr 1; omega
    simpa using this
  have hadv : Adv w S (w.drew.alloc (.cells cur e)) (S.upd w.heap.size (.tip e k m)) := (Adv.refl w S).drew.trans (Adv.allocOwn (w := w.drew) (.cells cur e) (.tip e k m) hS)
  have hb : (w.drew.alloc (.cells cur e)).heap[w.heap.size]? = some (.cells cur e (0, 0)) := heap_alloc_new w.drew _
  refine ⟨hS, hg.mk (hg.1.drew.allocOwn (w := w.drew) _ _ ⟨cur, cap, hb, hcap, hmax, hsz, fun v hv => by
    rw [hcur] at hv
    rcases List.mem_append.1 hv with hv | hv
    · exact h1 v hv
    · exact hone v hv⟩) hadv, hadv, ?_⟩
  simp only [Rel]
  refine .inr ⟨w.heap.size, 0, cap, by rw [hrows], by omega, hmax, ?_, ?_⟩
  · exact ⟨rfl, rfl, e, by simp only [World.shape?, hb, hsz]⟩
  · refine RelRows.of_cells hlen (RelL.mono hadv _ _ hr) (fun i v hv => ?_) h1 (fun i hi => ?_)
    · rw [Nat.zero_add, cell_of_row _ _ i cur e (0, 0) hb]
      have : cur.toList[i]? = some v := by
        rw [hcur, List.getElem?_append_left (by
          rcases Nat.lt_or_ge i vs.length with h | h
          · exact h
          · rw [List.getElem?_eq_none h] at hv; cases hv)]
        exact hv
      simpa using this
    · simp only [rdOf, St.upd_same]
      rw [hrows] at hi
      omega
theorem aAppend_sound' (hT : TyOk P C) {w : World} {S : St} (hg : Good C w S) {t ty : TypeId} {p q : AV} (hp : ∀ b k es, p ≠ .sl (.acc b) k es) {x y : Value} (hx : Rel w (rdOf S) p x) (hy : Rel w (rdOf S) q y) {K : AV → St → Prop} (h : aAppend C t p q S K) :
    ∃ z v w' S', K z S' ∧ Rel w' (rdOf S') z v ∧ Good C w' S' ∧ Adv w S w' S' ∧ (Builtin.append_ #[t, t] ty #[x, y]).run P w = .ok v w' := by
  unfold aAppend at h
  split at h
  case h_2 => exact h.elim
  rename_i e hk
  rw [when_iff] at h
  obtain ⟨hke, h⟩ := h
  simp only [Bool.and_eq_true] at hke
  obtain ⟨hke, hpos, hbpos⟩ := hke
  have hpos : 0 < (C.T e).size := by have := Nat.le_of_ble_eq_true hpos; omega
  have hbpos : 0 < (C.T e).bytes := by have := Nat.le_of_ble_eq_true hbpos; omega
  have hbytes : ∀ n : Nat, n * (C.T e).bytes ≤ 140737488355328 → n ≤ 140737488355328 := fun n h => Nat.le_trans (Nat.le_mul_of_pos_right n hbpos) h
  have hu := und_slice hT hk
  obtain ⟨i, d, hi, his, hib, hiz, _, _, hzs, hz1⟩ := ty_info hT hke
  split at h
  · -- nothing is appended
    simp only [Rel] at hy; subst hy
    split at h
    · simp only [Rel] at hx; subst hx
      exact ⟨_, _, w, S, h, by simp only [Rel], hg, Adv.refl w S, append_nothing hT hk hke none 0 0 (Nat.le_refl _) none 0⟩
    · rename_i sh k es
      have hx' := hx
      simp only [Rel] at hx
      rcases hx with ⟨_, _, rfl⟩ | ⟨b, off, cap, rfl, h1, _⟩
      · exact ⟨_, _, w, S, h, hx', hg, Adv.refl w S, append_nothing hT hk hke none 0 0 (Nat.le_refl _) none 0⟩
      · exact ⟨_, _, w, S, h, hx', hg, Adv.refl w S, append_nothing hT hk hke _ _ _ h1 none 0⟩
    · exact h.elim
  · rename_i sh2 k' new
    rw [when_iff] at h
    obtain ⟨hk', h⟩ := h
    have hk' := Nat.eq_of_beq_eq_true hk'
    have hnewlen : ∀ r ∈ new, r.length = k' := by
      simp only [Rel] at hy
      rcases hy with ⟨_, rfl, _⟩ | ⟨b, off, cap, rfl, _, _, _, h4⟩
      · simp
      · exact RelRows.lens h4
    have hsrc := src_cells hy
    split at h
    · -- onto nil
      simp only [Rel] at hx; subst hx
      obtain ⟨hb, h⟩ := h
      split at h
      · rcases hsrc with ⟨_, base, c2, rfl⟩ | ⟨a, c2, news, rfl, h1, _⟩
        · exact ⟨_, _, w, S, h, by simp only [Rel], hg, Adv.refl w S, append_nothing hT hk hke none 0 0 (Nat.le_refl _) base c2⟩
        · exact ⟨_, _, w, S, h, by simp only [Rel], hg, Adv.refl w S, append_nothing hT hk hke none 0 0 (Nat.le_refl _) (some a) c2⟩
      · rename_i r rs
        rcases hsrc with ⟨hn, _⟩ | ⟨a, c2, news, rfl, h1, h2, h3, h4⟩
        · cases hn
        · have hm : 0 < (r :: rs).length := by simp
          have hmle := hbytes _ hb
          have hrun := run_append_nil (P := P) (w := w) t ty e i (C.T e).zero hu hi hiz a (r :: rs).length c2 news (by rw [h1, his, hk']) h2 hm (by omega) (by rw [hib]; omega)
          have hge := grownCap_ge w (r :: rs).length 0 e
          have hcm := grownCap_le_maxLen w (r :: rs).length 0 e (by simp only [maxLen]; omega)
          obtain ⟨g1, g2, g3, g4⟩ := grown_sound hg (e := e) (k := k') (m := (r :: rs).length) (cap := grownCap w (r :: rs).length 0 e) (rows := r :: rs) (vs := news)
            (rest := (Builtin.zeroCells (C.T e).zero.cells (grownCap w (r :: rs).length 0 e - (r :: rs).length)).toList)
            (cur := news.toArray ++ Builtin.zeroCells (C.T e).zero.cells (grownCap w (r :: rs).length 0 e - (r :: rs).length)) rfl hnewlen h4 h3 h1 hge hcm
            (by rw [Array.length_toList, size_zeroCells, hzs, hk']) (zeroCells_one hz1 _) (by simp)
          exact ⟨_, _, _, _, h _ g1, g4, g2, g3, hrun⟩
    · -- onto what is the call's own
      rename_i b k es
      rw [when_iff] at h
      obtain ⟨hkk, ⟨hSb, hb⟩, h⟩ := h
      have hkk := Nat.eq_of_beq_eq_true hkk
      subst hkk
      have hnle := hbytes _ hb
      have hx' := hx
      simp only [Rel, Sh.mayNil, Bool.false_eq_true, reduceCtorEq, false_and, false_or] at hx
      obtain ⟨b1, off, cap, rfl, hlc, hmax, ⟨hbb, hoff, e', hsh⟩, hrows⟩ := hx
      subst hbb; subst hoff
      obtain ⟨cur, cap', hheap, hc1, hc2, hc3, hc4⟩ := hg.1 b _ hSb
      have hcapk : cur.size = cap * k := by
        simp only [World.shape?, hheap, Option.some.injEq, Prod.mk.injEq] at hsh
        exact hsh.2
      obtain ⟨olds, o1, o2, o3, o4, o5⟩ := RelRows.cells hrows
      have heslen : ∀ r ∈ es, r.length = k := RelRows.lens hrows
      have hpre : olds = cur.toList.take (es.length * k) := by
        apply List.ext_getElem?
        intro j
        by_cases hj : j < es.length * k
        · have hjc : j < cur.size := by
            rw [hcapk]; exact Nat.lt_of_lt_of_le hj (Nat.mul_le_mul_right _ hlc)
          have hjo : olds[j]? = some olds[j] := List.getElem?_eq_getElem (by rw [o5]; exact hj)
          have := o2 j _ hjo
          rw [Nat.zero_add, cell_of_row w b j cur e (0, 0) hheap] at this
          rw [hjo, List.getElem?_take, if_pos hj, Array.getElem?_toList, this]
        · rw [List.getElem?_eq_none (by rw [o5]; omega), List.getElem?_take, if_neg hj]
      rcases hsrc with ⟨hn, base, c2, rfl⟩ | ⟨a, c2, news, rfl, h1, h2, h3, h4⟩
      · subst hn
        have he : (S.del b).upd b (.tip e k (es.length + ([] : List (List AV)).length)) = S := by
          funext x
          by_cases hxb : x = b
          · subst hxb; rw [St.upd_same, hSb]; rfl
          · rw [St.upd_ne _ _ _ _ hxb, St.del_ne _ _ _ hxb]
        have hh := h b (St.del_same S b)
        rw [he, List.append_nil] at hh
        exact ⟨_, _, w, S, hh, hx', hg, Adv.refl w S, append_nothing hT hk hke _ _ _ hlc base c2⟩
      · by_cases hroom : es.length + new.length ≤ cap
        · have hfit : es.length * i.size + news.length ≤ cur.size := by
            rw [h1, his, hk', hcapk, ← Nat.add_mul]; exact Nat.mul_le_mul_right _ hroom
          have hrun := run_append_room (P := P) w t ty e i hu hi b es.length cap cur hheap a new.length c2 news (by rw [h1, his, hk']) h2 h3 hroom hfit
          rw [his, hk'] at hrun
          have hszn : (cur.toList.take (es.length * k) ++ news ++ cur.toList.drop (es.length * k + news.length)).toArray.size = cur.size := by
            simp only [List.size_toArray, List.length_append, List.length_take, List.length_drop, Array.length_toList]
            rw [his, hk'] at hfit; omega
          have hadv := Adv.setTip (m := es.length + new.length) hSb (Nat.le_add_right _ _) hheap hszn (fun j hj => by
            have hjc : j < cur.toList.length := by
              rw [Array.length_toList, hcapk]; exact Nat.lt_of_lt_of_le hj (Nat.mul_le_mul_right _ hlc)
            simp only [List.getElem?_toArray]
            rw [List.append_assoc, List.getElem?_append_left (by rw [List.length_take]; omega), List.getElem?_take, if_pos hj, Array.getElem?_toList])
          have hheap' := setRow_heap w b cur (cur.toList.take (es.length * k) ++ news ++ cur.toList.drop (es.length * k + news.length)).toArray e (0, 0) hheap
          refine ⟨_, _, _, _, h b (St.del_same S b), ?_, hg.mk ?_ hadv, hadv, hrun⟩
          · simp only [Rel]
            refine .inr ⟨b, 0, cap, by rw [List.length_append], by rw [List.length_append]; exact hroom, hmax, ?_, ?_⟩
            · exact ⟨rfl, rfl, e, by simp only [World.shape?, hheap', hszn, hcapk]⟩
            · refine RelRows.of_cells (vs := olds ++ news) (fun r hr => ?_) ?_ (fun j v hj => ?_) (fun u hu' => ?_) (fun j hj => ?_)
              · rcases List.mem_append.1 hr with hr | hr
                · exact heslen r hr
                · exact hnewlen r hr
              · rw [List.flatten_append]
                exact RelL.append (RelL.mono hadv _ _ o1) (RelL.mono hadv _ _ h4)
              · rw [Nat.zero_add, cell_of_row _ b j _ e (0, 0) hheap', List.getElem?_toArray, ← hpre]
                rw [List.getElem?_append_left (by
                  rcases Nat.lt_or_ge j (olds ++ news).length with h | h
                  · exact h
                  · rw [List.getElem?_eq_none h] at hj; cases hj)]
                exact hj
              · rcases List.mem_append.1 hu' with hu' | hu'
                · exact o3 u hu'
                · exact h3 u hu'
              · simp only [rdOf, St.upd_same]
                rw [List.length_append] at hj
                omega
          · intro b' o' ho'
            by_cases hbb : b' = b
            · subst hbb
              rw [St.upd_same] at ho'; cases ho'
              exact ⟨_, cap, hheap', hroom, hmax, by rw [hszn, hcapk], ones_room hc4 h3 _ _⟩
            · rw [St.upd_ne _ _ _ _ hbb, St.del_ne _ _ _ hbb] at ho'
              exact OwnOk.mono hadv (setRow_other w b b' _ hbb) (hg.1 b' o' ho')
        · have holds : ∀ j v, olds[j]? = some v → w.cell? ((⟨b, 0, none⟩ : Addr).add j) = some v := fun j v hj => by
            rw [Addr.add_lit]; exact o2 j v hj
          have hrun := run_append_grow (P := P) (w := w) t ty e i (C.T e).zero hu hi hiz ⟨b, 0, none⟩ es.length cap olds (by rw [o5, his, hk']) holds a new.length c2 news (by rw [h1, his, hk']) h2 (by omega) (by omega)
            (by rw [hib]; exact growslice_fits (by omega) hb)
          have hge := grownCap_ge w (es.length + new.length) cap e
          have hcm := grownCap_le_maxLen w (es.length + new.length) cap e (by simp only [maxLen]; omega)
          have hgd : Good C w (S.del b) := hg.mk (hg.1.del b) (Adv.del b)
          obtain ⟨g1, g2, g3, g4⟩ := grown_sound hgd (e := e) (k := k) (m := es.length + new.length) (cap := grownCap w (es.length + new.length) cap e) (rows := es ++ new) (vs := olds ++ news)
            (rest := (Builtin.zeroCells (C.T e).zero.cells (grownCap w (es.length + new.length) cap e - (es.length + new.length))).toList)
            (cur := olds.toArray ++ news.toArray ++ Builtin.zeroCells (C.T e).zero.cells (grownCap w (es.length + new.length) cap e - (es.length + new.length))) (by simp)
            (fun r hr => by
              rcases List.mem_append.1 hr with hr | hr
              · exact heslen r hr
              · exact hnewlen r hr)
            (by rw [List.flatten_append]; exact RelL.append (RelL.mono (Adv.del b) _ _ o1) (RelL.mono (Adv.del b) _ _ h4))
            (fun u hu' => by
              rcases List.mem_append.1 hu' with hu' | hu'
              · exact o3 u hu'
              · exact h3 u hu')
            (by rw [List.length_append, o5, h1, Nat.add_mul]) hge hcm
            (by rw [Array.length_toList, size_zeroCells, hzs, hk']) (zeroCells_one hz1 _) (by simp)
          exact ⟨_, _, _, _, h _ g1, g4, g2, (Adv.del b).trans g3, hrun⟩
    · exact absurd rfl (hp _ _ _)
    · -- onto a row without room
      rename_i k es
      rw [when_iff] at h
      obtain ⟨hkk, hb, h⟩ := h
      have hkk := Nat.eq_of_beq_eq_true hkk
      subst hkk
      have hnle := hbytes _ hb
      have hx' := hx
      simp only [Rel, Sh.mayNil, Bool.false_eq_true, reduceCtorEq, false_and, false_or] at hx
      obtain ⟨b, off, cap, rfl, hlc, hmax, hcap, hrows⟩ := hx
      have hcap : cap = es.length := hcap
      subst hcap
      obtain ⟨olds, o1, o2, o3, o4, o5⟩ := RelRows.cells hrows
      have heslen : ∀ r ∈ es, r.length = k := RelRows.lens hrows
      split at h
      · rcases hsrc with ⟨_, base, c2, rfl⟩ | ⟨a, c2, news, rfl, h1, _⟩
        · exact ⟨_, _, w, S, h, hx', hg, Adv.refl w S, append_nothing hT hk hke _ _ _ hlc base c2⟩
        · exact ⟨_, _, w, S, h, hx', hg, Adv.refl w S, append_nothing hT hk hke _ _ _ hlc (some a) c2⟩
      · rename_i r rs
        rcases hsrc with ⟨hn, _⟩ | ⟨a, c2, news, rfl, h1, h2, h3, h4⟩
        · cases hn
        · have hm : 0 < (r :: rs).length := by simp
          generalize hnew : r :: rs = new at *
          have holds : ∀ j v, olds[j]? = some v → w.cell? ((⟨b, off, none⟩ : Addr).add j) = some v := fun j v hj => by
            rw [Addr.add_lit]; exact o2 j v hj
          have hrun := run_append_grow (P := P) (w := w) t ty e i (C.T e).zero hu hi hiz ⟨b, off, none⟩ es.length es.length olds (by rw [o5, his, hk']) holds a new.length c2 news (by rw [h1, his, hk']) h2 (by omega) (by omega)
            (by rw [hib]; exact growslice_fits (by omega) hb)
          have hge := grownCap_ge w (es.length + new.length) es.length e
          have hcm := grownCap_le_maxLen w (es.length + new.length) es.length e (by simp only [maxLen]; omega)
          obtain ⟨g1, g2, g3, g4⟩ := grown_sound hg (e := e) (k := k) (m := es.length + new.length) (cap := grownCap w (es.length + new.length) es.length e) (rows := es ++ new) (vs := olds ++ news)
            (rest := (Builtin.zeroCells (C.T e).zero.cells (grownCap w (es.length + new.length) es.length e - (es.length + new.length))).toList)
            (cur := olds.toArray ++ news.toArray ++ Builtin.zeroCells (C.T e).zero.cells (grownCap w (es.length + new.length) es.length e - (es.length + new.length))) (by simp)
            (fun r hr => by
              rcases List.mem_append.1 hr with hr | hr
              · exact heslen r hr
              · exact hnewlen r hr)
            (by rw [List.flatten_append]; exact RelL.append o1 h4)
            (fun u hu' => by
              rcases List.mem_append.1 hu' with hu' | hu'
              · exact o3 u hu'
              · exact h3 u hu')
            (by rw [List.length_append, o5, h1, Nat.add_mul]) hge hcm
            (by rw [Array.length_toList, size_zeroCells, hzs, hk']) (zeroCells_one hz1 _) (by simp)
          exact ⟨_, _, _, _, h _ g1, g4, g2, g3, hrun⟩
    · exact h.elim
  · exact h.elim
theorem aAppend_sound (hT : TyOk P C) {w : World} {S : St} (hg : Good C w S) {t ty : TypeId} {p q : AV} {x y : Value} (hx : Rel w (rdOf S) p x) (hy : Rel w (rdOf S) q y) {K : AV → St → Prop} (h : aAppend C t p q S K) :
    ∃ z v w' S', K z S' ∧ Rel w' (rdOf S') z v ∧ Good C w' S' ∧ Adv w S w' S' ∧ (Builtin.append_ #[t, t] ty #[x, y]).run P w = .ok v w' := by
  by_cases hp : ∃ b k es, p = .sl (.acc b) k es
  · obtain ⟨b, k, es, rfl⟩ := hp
    have h' := h
    unfold aAppend at h
    split at h
    case h_2 => exact h.elim
    rename_i e hk
    rw [when_iff] at h
    obtain ⟨hke', h⟩ := h
    have hx' := hx
    simp only [Rel] at hx
    split at h
    · -- nothing
      simp only [Rel] at hy; subst hy
      have hke : known C e = true := by simp only [Bool.and_eq_true] at hke'; exact hke'.1
      rcases hx with ⟨_, _, rfl⟩ | ⟨b1, off, cap, rfl, hlc, _⟩
      · exact ⟨_, _, w, S, h, hx', hg, Adv.refl w S, append_nothing hT hk hke none 0 0 (Nat.le_refl _) none 0⟩
      · exact ⟨_, _, w, S, h, hx', hg, Adv.refl w S, append_nothing hT hk hke _ _ _ hlc none 0⟩
    · rename_i sh2 k' new
      have hke : known C e = true := by simp only [Bool.and_eq_true] at hke'; exact hke'.1
      have hsrc := src_cells hy
      rw [when_iff] at h
      obtain ⟨hk', h⟩ := h
      simp only [when_iff] at h
      obtain ⟨hkk, ⟨hSb, hb⟩, h⟩ := h
      have hkk' := Nat.eq_of_beq_eq_true hkk
      subst hkk'
      split at h
      · rcases hx with ⟨_, _, rfl⟩ | ⟨b1, off, cap, rfl, hlc, _⟩
        · rcases hsrc with ⟨_, base, c2, rfl⟩ | ⟨a, c2, news, rfl, h1, _⟩
          · exact ⟨_, _, w, S, h, hx', hg, Adv.refl w S, append_nothing hT hk hke none 0 0 (Nat.le_refl _) base c2⟩
          · exact ⟨_, _, w, S, h, hx', hg, Adv.refl w S, append_nothing hT hk hke none 0 0 (Nat.le_refl _) (some a) c2⟩
        · rcases hsrc with ⟨_, base, c2, rfl⟩ | ⟨a, c2, news, rfl, h1, _⟩
          · exact ⟨_, _, w, S, h, hx', hg, Adv.refl w S, append_nothing hT hk hke _ _ _ hlc base c2⟩
          · exact ⟨_, _, w, S, h, hx', hg, Adv.refl w S, append_nothing hT hk hke _ _ _ hlc (some a) c2⟩
      · rename_i r rs
        have ho : ∀ {v : Value} {w' : World} {S' : St} {b' : Nat} {es' : List (List AV)}, Rel w' (rdOf S') (.sl (.own b') k (es' ++ (r :: rs))) v → Rel w' (rdOf S') (.sl (.acc b') k (es' ++ (r :: rs))) v := fun {v w' S' b' es'} hr => by
          simp only [Rel] at hr ⊢
          rcases hr with ⟨hh, _⟩ | ⟨b, off, cap, h1, h2, h3, h4, h5⟩
          · cases hh
          · exact .inr ⟨b, off, cap, h1, h2, h3, ⟨by rw [List.length_append, List.length_cons]; omega, h4⟩, h5⟩
        by_cases hes : es = []
        · subst hes
          rcases hx with ⟨_, _, rfl⟩ | ⟨b1, off, cap, rfl, hlc, hmax, ⟨h0, _⟩, hrows⟩
          · have hh : aAppend C t .nils (.sl sh2 k (r :: rs)) S (fun z S' => ∃ b', S b' = none ∧ z = .sl (.own b') k (r :: rs) ∧ S' = S.upd b' (.tip e k (r :: rs).length)) := by
              unfold aAppend
              simp only [hk, when_iff]
              refine ⟨hke', hk', by simpa using hb, fun b' hb' => ⟨b', hb', rfl, rfl⟩⟩
            obtain ⟨z, v, w', S', ⟨b', m1, rfl, rfl⟩, m2, m3, m4, m5⟩ := aAppend_sound' (P := P) hT hg (ty := ty) (p := .nils) (x := .slice none 0 0) (by simp) (by simp only [Rel]) hy hh
            exact ⟨_, v, w', _, h S (fun _ => rfl) (fun hn => absurd rfl hn) b' m1, ho (es' := []) (by simpa only [List.nil_append, List.length_nil, Nat.zero_add] using m2), by simpa only [List.length_nil, Nat.zero_add] using m3, by simpa only [List.length_nil, Nat.zero_add] using m4, m5⟩
          · simp at h0
        · have hown : Rel w (rdOf S) (.sl (.own b) k es) x := by
            simp only [Rel]
            rcases hx with ⟨_, hh, _⟩ | ⟨b1, off, cap, h1, h2, h3, h4, h5⟩
            · exact absurd hh hes
            · exact .inr ⟨b1, off, cap, h1, h2, h3, h4.2, h5⟩
          have hh : aAppend C t (.sl (.own b) k es) (.sl sh2 k (r :: rs)) S (fun z S' => ∃ b', (S.del b) b' = none ∧ z = .sl (.own b') k (es ++ (r :: rs)) ∧ S' = (S.del b).upd b' (.tip e k (es.length + (r :: rs).length))) := by
            unfold aAppend
            simp only [hk, when_iff]
            exact ⟨hke', hk', hkk, ⟨hSb hes, hb⟩, fun b' hb' => ⟨b', hb', rfl, rfl⟩⟩
          obtain ⟨z, v, w', S', ⟨b', m1, rfl, rfl⟩, m2, m3, m4, m5⟩ := aAppend_sound' (P := P) hT hg (ty := ty) (p := .sl (.own b) k es) (by simp) hown hy hh
          exact ⟨_, v, w', _, h (S.del b) (fun hn => absurd hn hes) (fun _ => rfl) b' m1, ho m2, m3, m4, m5⟩
    · exact h.elim
  · exact aAppend_sound' hT hg (fun b k es hh => hp ⟨b, k, es, hh⟩) hx hy h
end
end Go.Proofs.YtikkoaoibomofaaGreatDoor.Aw

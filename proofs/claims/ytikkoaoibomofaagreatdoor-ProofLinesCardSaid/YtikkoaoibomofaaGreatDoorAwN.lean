/-
  The abstract walk is sound: append of whatever source (a string's bytes, a row that may be written), conversions between strings and bytes, make. No condition.
-/
import Derived.Test.YtikkoaoibomofaaGreatDoorAwM
import Derived.Deep.AppendSrc
import Derived.Laws.IdiomStrings
import Derived.Laws.MakeOwn
set_option linter.unusedVariables false
set_option linter.unusedSimpArgs false
namespace Go.Proofs.YtikkoaoibomofaaGreatDoor.Aw
open Go Go.RowKit

section
variable {P : Program} {C : Cx}
theorem run_append_room_src' (w : World) (t tx ty e : TypeId) (i : TypeInfo) (ht : P.underlying t = some (.slice e)) (hi : P.info? e = some i)
    (g sLen sCap : Nat) (cur : Array Value) (hg : w.heap[g]? = some (.cells cur e (0, 0))) (x : Value) (n : Nat) (news : List Value) (hs : Src P i.size tx x n news w)
    (hroom : sLen + n ≤ sCap) (hfit : sLen * i.size + news.length ≤ cur.size) :
    (Builtin.append_ #[t, tx] ty #[.slice (some ⟨g, 0, none⟩) sLen sCap, x]).run P w =
      .ok (.slice (some ⟨g, 0, none⟩) (sLen + n) sCap) (w.setRow g (cur.toList.take (sLen * i.size) ++ news ++ cur.toList.drop (sLen * i.size + news.length)).toArray) := by
  have hst := run_storeCells_at P g (sLen * i.size) e news 0 cur w hg (by simpa using hfit) hs.one
  simp only [Nat.add_zero] at hst
  rcases hs.kind with ⟨e', hk⟩ | hk <;> simp [Builtin.append_, run_underlying ht, run_underlying hk, sizeOf, typeInfo, hi, hs.len, hroom, hs.cells, Addr.add_lit, hst]
theorem run_append_none_src (w : World) (t tx ty e : TypeId) (i : TypeInfo) (ht : P.underlying t = some (.slice e)) (hi : P.info? e = some i) (x : Value) (hs : Src P i.size tx x 0 [] w) :
    (Builtin.append_ #[t, tx] ty #[.slice none 0 0, x]).run P w = .ok (.slice none 0 0) w := by
  rcases hs.kind with ⟨e', hk⟩ | hk <;> simp [Builtin.append_, run_underlying ht, run_underlying hk, sizeOf, typeInfo, hi, hs.len, hs.cells]
/-- Onto nil. -/
theorem nil_grow (hT : TyOk P C) {w : World} {S : St} (hg : Good C w S) {t tx ty e : TypeId} (hk : (C.T t).kind = .slice e) (hke : known C e = true) {y : Value} {new : List (List AV)} {news : List Value}
    (hs : Src P (C.T e).size tx y new.length news w) (hr : RelL w (rdOf S) new.flatten news) (hl : ∀ r ∈ new, r.length = (C.T e).size) (hpos : 0 < (C.T e).bytes) (hlim : new.length * (C.T e).bytes ≤ 140737488355328) (hm : 0 < new.length) :
    ∃ b v w', S b = none ∧ Rel w' (rdOf (S.upd b (.tip e (C.T e).size new.length))) (.sl (.own b) (C.T e).size new) v ∧ Good C w' (S.upd b (.tip e (C.T e).size new.length)) ∧ Adv w S w' (S.upd b (.tip e (C.T e).size new.length)) ∧
      (Builtin.append_ #[t, tx] ty #[.slice none 0 0, y]).run P w = .ok v w' := by
  have hu := und_slice hT hk
  obtain ⟨i, d, hi, his, hib, hiz, _, _, hzs, hz1⟩ := ty_info hT hke
  have hn : new.length ≤ 140737488355328 := Nat.le_trans (Nat.le_mul_of_pos_right _ hpos) hlim
  rw [← his] at hs
  have hrun := run_append_grow_src (P := P) w t tx ty e i (C.T e).zero hu hi hiz none 0 0 [] (by simp [Builtin.firstCells]) y new.length news hs (by omega) (by omega) (by
    rw [hib, Nat.zero_add, nextslicecap_zero hm]; omega)
  simp only [Nat.zero_add, List.nil_append] at hrun
  have hge := grownCap_ge w new.length 0 e
  have hcm := grownCap_le_maxLen w new.length 0 e (by simp only [maxLen]; omega)
  obtain ⟨g1, g2, g3, g4⟩ := grown_sound hg (e := e) (k := (C.T e).size) (m := new.length) (cap := grownCap w new.length 0 e) (rows := new) (vs := news)
    (rest := (Builtin.zeroCells (C.T e).zero.cells (grownCap w new.length 0 e - new.length)).toList)
    (cur := news.toArray ++ Builtin.zeroCells (C.T e).zero.cells (grownCap w new.length 0 e - new.length)) rfl hl hr hs.one (by rw [hs.newsLen, his]) hge hcm
    (by rw [Array.length_toList, size_zeroCells, hzs]) (zeroCells_one hz1 _) (by simp)
  exact ⟨_, _, _, g1, g4, g2, g3, hrun⟩
/-- Onto a row of the call's own. -/
theorem own_grow (hT : TyOk P C) {w : World} {S : St} (hg : Good C w S) {t tx ty e : TypeId} (hk : (C.T t).kind = .slice e) (hke : known C e = true) {b : Nat} {es : List (List AV)} {x : Value} (hx : Rel w (rdOf S) (.sl (.own b) (C.T e).size es) x)
    (hSb : S b = some (.tip e (C.T e).size es.length)) {y : Value} {new : List (List AV)} {news : List Value}
    (hs : Src P (C.T e).size tx y new.length news w) (hr : RelL w (rdOf S) new.flatten news) (hl : ∀ r ∈ new, r.length = (C.T e).size) (hpos : 0 < (C.T e).bytes) (hlim : (es.length + new.length) * (C.T e).bytes ≤ 140737488355328) :
    ∃ b' v w', (S.del b) b' = none ∧ Rel w' (rdOf ((S.del b).upd b' (.tip e (C.T e).size (es.length + new.length)))) (.sl (.own b') (C.T e).size (es ++ new)) v ∧ Good C w' ((S.del b).upd b' (.tip e (C.T e).size (es.length + new.length))) ∧
      Adv w S w' ((S.del b).upd b' (.tip e (C.T e).size (es.length + new.length))) ∧ (Builtin.append_ #[t, tx] ty #[x, y]).run P w = .ok v w' := by
  have hu := und_slice hT hk
  obtain ⟨i, d, hi, his, hib, hiz, _, _, hzs, hz1⟩ := ty_info hT hke
  generalize hkk : (C.T e).size = k at *
  have hnle : es.length + new.length ≤ 140737488355328 := Nat.le_trans (Nat.le_mul_of_pos_right _ hpos) hlim
  have hx' := hx
  simp only [Rel, Sh.mayNil, Bool.false_eq_true, reduceCtorEq, false_and, false_or] at hx
  obtain ⟨b1, off, cap, rfl, hlc, hmax, ⟨hbb, hoff, e', hsh⟩, hrows⟩ := hx
  subst hbb; subst hoff
  obtain ⟨cur, cap', hheap, hc1, hc2, hc3, hc4⟩ := hg.1 b _ hSb
  have hcapk : cur.size = cap * k := by
    simp only [World.shape?, hheap, Option.some.injEq, Prod.mk.injEq] at hsh
    exact hsh.2
  obtain ⟨olds, o1, o2, o3, o4, o5⟩ := RelRows.cells hrows
  have heslen : ∀ r ∈ es, r.length = k := RelRows.lens hrows
  have h1 : news.length = new.length * k := hs.newsLen
  have hpre : olds = cur.toList.take (es.length * k) := by
    apply List.ext_getElem?
    intro j
    by_cases hj : j < es.length * k
    · have hjc : j < cur.size := by
        rw [hcapk]; exact Nat.lt_of_lt_of_le hj (Nat.mul_le_mul_right _ hlc)
      have hjo : olds[j]? = some olds[j] := List.getElem?_eq_getElem (by rw [o5]; exact hj)
      have := o2 j _ hjo
      rw [Nat.zero_add, cell_of_row w b j cur e (0, 0) hheap] at this
      rw [hjo, List.getElem?_take, if_pos hj, Array.getElem?_toList, this]
    · rw [List.getElem?_eq_none (by rw [o5]; omega), List.getElem?_take, if_neg hj]
  rw [← his] at hs
  by_cases hroom : es.length + new.length ≤ cap
  · have hfit : es.length * i.size + news.length ≤ cur.size := by
      rw [h1, his, hcapk, ← Nat.add_mul]; exact Nat.mul_le_mul_right _ hroom
    have hrun := run_append_room_src' (P := P) w t tx ty e i hu hi b es.length cap cur hheap y new.length news hs hroom hfit
    rw [his] at hrun
    have hszn : (cur.toList.take (es.length * k) ++ news ++ cur.toList.drop (es.length * k + news.length)).toArray.size = cur.size := by
      simp only [List.size_toArray, List.length_append, List.length_take, List.length_drop, Array.length_toList]
      rw [his] at hfit; omega
    have hadv := Adv.setTip (m := es.length + new.length) hSb (Nat.le_add_right _ _) hheap hszn (fun j hj => by
      have hjc : j < cur.toList.length := by
        rw [Array.length_toList, hcapk]; exact Nat.lt_of_lt_of_le hj (Nat.mul_le_mul_right _ hlc)
      simp only [List.getElem?_toArray]
      rw [List.append_assoc, List.getElem?_append_left (by rw [List.length_take]; omega), List.getElem?_take, if_pos hj, Array.getElem?_toList])
    have hheap' := setRow_heap w b cur (cur.toList.take (es.length * k) ++ news ++ cur.toList.drop (es.length * k + news.length)).toArray e (0, 0) hheap
    refine ⟨b, _, _, St.del_same S b, ?_, hg.mk ?_ hadv, hadv, hrun⟩
    · simp only [Rel]
      refine .inr ⟨b, 0, cap, by rw [List.length_append], by rw [List.length_append]; exact hroom, hmax, ?_, ?_⟩
      · exact ⟨rfl, rfl, e, by simp only [World.shape?, hheap', hszn, hcapk]⟩
      · refine RelRows.of_cells (vs := olds ++ news) (fun r hr => ?_) ?_ (fun j v hj => ?_) (fun u hu' => ?_) (fun j hj => ?_)
        · rcases List.mem_append.1 hr with hr | hr
          · exact heslen r hr
          · exact hl r hr
        · rw [List.flatten_append]
          exact RelL.append (RelL.mono hadv _ _ o1) (RelL.mono hadv _ _ hr)
        · rw [Nat.zero_add, cell_of_row _ b j _ e (0, 0) hheap', List.getElem?_toArray, ← hpre]
          rw [List.getElem?_append_left (by
            rcases Nat.lt_or_ge j (olds ++ news).length with h | h
            · exact h
            · rw [List.getElem?_eq_none h] at hj; cases hj)]
          exact hj
        · rcases List.mem_append.1 hu' with hu' | hu'
          · exact o3 u hu'
          · exact hs.one u hu'
        · simp only [rdOf, St.upd_same]
          rw [List.length_append] at hj
          omega
    · intro b' o' ho'
      by_cases hbb : b' = b
      · subst hbb
        rw [St.upd_same] at ho'; cases ho'
        exact ⟨_, cap, hheap', hroom, hmax, by rw [hszn, hcapk], ones_room hc4 hs.one _ _⟩
      · rw [St.upd_ne _ _ _ _ hbb, St.del_ne _ _ _ hbb] at ho'
        exact OwnOk.mono hadv (setRow_other w b b' _ hbb) (hg.1 b' o' ho')
  · have holds : (Builtin.firstCells i.size es.length (.slice (some ⟨b, 0, none⟩) es.length cap)).run P w.drew = .ok olds.toArray w.drew :=
      run_firstCells_some w.drew i.size es.length ⟨b, 0, none⟩ es.length cap olds (by rw [o5, his]) (fun j v hj => by
        rw [Addr.add_lit]
        have := o2 j v hj
        simpa using this)
    have hrun := run_append_grow_src (P := P) w t tx ty e i (C.T e).zero hu hi hiz (some ⟨b, 0, none⟩) es.length cap olds holds y new.length news hs (by omega) (by omega)
      (by rw [hib]; exact growslice_fits (by omega) hlim)
    have hge := grownCap_ge w (es.length + new.length) cap e
    have hcm := grownCap_le_maxLen w (es.length + new.length) cap e (by simp only [maxLen]; omega)
    have hgd : Good C w (S.del b) := hg.mk (hg.1.del b) (Adv.del b)
    obtain ⟨g1, g2, g3, g4⟩ := grown_sound hgd (e := e) (k := k) (m := es.length + new.length) (cap := grownCap w (es.length + new.length) cap e) (rows := es ++ new) (vs := olds ++ news)
      (rest := (Builtin.zeroCells (C.T e).zero.cells (grownCap w (es.length + new.length) cap e - (es.length + new.length))).toList)
      (cur := (olds ++ news).toArray ++ Builtin.zeroCells (C.T e).zero.cells (grownCap w (es.length + new.length) cap e - (es.length + new.length))) (by simp)
      (fun r hr => by
        rcases List.mem_append.1 hr with hr | hr
        · exact heslen r hr
        · exact hl r hr)
      (by rw [List.flatten_append]; exact RelL.append (RelL.mono (Adv.del b) _ _ o1) (RelL.mono (Adv.del b) _ _ hr))
      (fun u hu' => by
        rcases List.mem_append.1 hu' with hu' | hu'
        · exact o3 u hu'
        · exact hs.one u hu')
      (by rw [List.length_append, o5, h1, Nat.add_mul]) hge hcm
      (by rw [Array.length_toList, size_zeroCells, hzs]) (zeroCells_one hz1 _) (by simp)
    exact ⟨_, _, _, g1, g4, g2, (Adv.del b).trans g3, hrun⟩
theorem aGrow_sound (hT : TyOk P C) {w : World} {S : St} (hg : Good C w S) {t tx ty e : TypeId} (hk : (C.T t).kind = .slice e) {p : AV} {x y : Value} (hx : Rel w (rdOf S) p x) {new : List (List AV)} {news : List Value}
    (hs : Src P (C.T e).size tx y new.length news w) (hr : RelL w (rdOf S) new.flatten news) (hl : ∀ r ∈ new, r.length = (C.T e).size) {K : AV → St → Prop} (h : aGrow C e p new S K) :
    ∃ z v w' S', K z S' ∧ Rel w' (rdOf S') z v ∧ Good C w' S' ∧ Adv w S w' S' ∧ (Builtin.append_ #[t, tx] ty #[x, y]).run P w = .ok v w' := by
  unfold aGrow at h
  rw [when_iff] at h
  obtain ⟨hke, h⟩ := h
  simp only [Bool.and_eq_true] at hke
  obtain ⟨hke, hpos⟩ := hke
  have hpos : 0 < (C.T e).bytes := by have := Nat.le_of_ble_eq_true hpos; omega
  have hu := und_slice hT hk
  obtain ⟨i, d, hi, his, hib, hiz, _, _, hzs, hz1⟩ := ty_info hT hke
  have weak : ∀ {v : Value} {w' : World} {S' : St} {b' : Nat} {es' : List (List AV)}, 0 < es'.length → Rel w' (rdOf S') (.sl (.own b') (C.T e).size es') v → Rel w' (rdOf S') (.sl (.acc b') (C.T e).size es') v := fun {v w' S' b' es'} h0 hr => by
    simp only [Rel] at hr ⊢
    rcases hr with ⟨hh, _⟩ | ⟨b, off, cap, h1, h2, h3, h4, h5⟩
    · cases hh
    · exact .inr ⟨b, off, cap, h1, h2, h3, ⟨h0, h4⟩, h5⟩
  have nothing : ∀ {base : Option Addr} {n cap : Nat}, new.length = 0 → n ≤ cap → (Builtin.append_ #[t, tx] ty #[.slice base n cap, y]).run P w = .ok (.slice base n cap) w := fun {base n cap} hm hn => by
    have hn0 : news = [] := by
      have := hs.newsLen
      rw [hm, Nat.zero_mul] at this
      exact List.eq_nil_of_length_eq_zero this
    have hs' : Src P i.size tx y 0 [] w := by rw [his, ← hm, ← hn0]; exact hs
    rcases hs'.kind with ⟨e', hk'⟩ | hk' <;> cases base <;> simp [Builtin.append_, run_underlying hu, run_underlying hk', sizeOf, typeInfo, hi, hs'.len, hs'.cells, hn, storeCells]
  split at h
  · -- nil
    simp only [Rel] at hx; subst hx
    obtain ⟨hlim, h⟩ := h
    rcases Nat.eq_zero_or_pos new.length with hm | hm
    · have hnew : new = [] := List.eq_nil_of_length_eq_zero hm
      refine ⟨_, _, w, S, h 0 S (.inl ⟨hm, rfl, rfl⟩), ?_, hg, Adv.refl w S, nothing hm (Nat.le_refl _)⟩
      subst hnew
      simp only [Rel]
      exact .inl ⟨rfl, trivial, trivial⟩
    · obtain ⟨b, v, w', k1, k2, k3, k4, k5⟩ := nil_grow (P := P) (tx := tx) (ty := ty) hT hg hk hke hs hr hl hpos hlim hm
      refine ⟨_, v, w', _, h b _ (.inr ⟨hm, S, fun _ => rfl, fun h => absurd h (by omega), k1, rfl⟩), weak hm ?_, ?_, ?_, k5⟩
      · simpa only [Nat.zero_add] using k2
      · simpa only [Nat.zero_add] using k3
      · simpa only [Nat.zero_add] using k4
  · -- own
    rename_i b k es
    rw [when_iff] at h
    obtain ⟨hkk, ⟨hSb, hlim⟩, h⟩ := h
    have hkk := Nat.eq_of_beq_eq_true hkk
    subst hkk
    obtain ⟨b', v, w', k1, k2, k3, k4, k5⟩ := own_grow (P := P) (tx := tx) (ty := ty) hT hg hk hke hx hSb hs hr hl hpos hlim
    exact ⟨_, v, w', _, h b' k1, k2, k3, k4, k5⟩
  · -- acc
    rename_i b k es
    rw [when_iff] at h
    obtain ⟨hkk, ⟨hSb, hlim⟩, h⟩ := h
    have hkk := Nat.eq_of_beq_eq_true hkk
    subst hkk
    have hx' := hx
    simp only [Rel] at hx
    rcases Nat.eq_zero_or_pos new.length with hm | hm
    · have hnew : new = [] := List.eq_nil_of_length_eq_zero hm
      subst hnew
      rcases hx with ⟨_, rfl, rfl⟩ | ⟨b1, off, cap, rfl, hlc, hmax, hsh, hrows⟩
      · exact ⟨_, _, w, S, h b S (.inl ⟨rfl, rfl, rfl⟩), by simpa using hx', hg, Adv.refl w S, nothing rfl (Nat.le_refl _)⟩
      · exact ⟨_, _, w, S, h b S (.inl ⟨rfl, rfl, rfl⟩), by simpa using hx', hg, Adv.refl w S, nothing rfl hlc⟩
    · rcases hx with ⟨_, rfl, rfl⟩ | ⟨b1, off, cap, rfl, hlc, hmax, hsh, hrows⟩
      · obtain ⟨b', v, w', k1, k2, k3, k4, k5⟩ := nil_grow (P := P) (tx := tx) (ty := ty) hT hg hk hke hs hr hl hpos (by simpa using hlim) hm
        refine ⟨_, v, w', _, h b' _ (.inr ⟨hm, S, fun _ => rfl, fun h => absurd h (by simp), k1, rfl⟩), weak (by simpa using hm) ?_, ?_, ?_, k5⟩
        · simpa only [List.length_nil, Nat.zero_add, List.nil_append] using k2
        · simpa only [List.length_nil, Nat.zero_add] using k3
        · simpa only [List.length_nil, Nat.zero_add] using k4
      · have h0 : 0 < es.length := hsh.1
        have hown : Rel w (rdOf S) (.sl (.own b) (C.T e).size es) (.slice (some ⟨b1, off, none⟩) es.length cap) := by
          simp only [Rel]
          exact .inr ⟨b1, off, cap, rfl, hlc, hmax, hsh.2, hrows⟩
        obtain ⟨b', v, w', k1, k2, k3, k4, k5⟩ := own_grow (P := P) (tx := tx) (ty := ty) hT hg hk hke hown (hSb h0) hs hr hl hpos hlim
        exact ⟨_, v, w', _, h b' _ (.inr ⟨hm, S.del b, fun h => absurd h (by omega), fun _ => rfl, k1, rfl⟩), weak (by rw [List.length_append]; omega) k2, k3, k4, k5⟩
  · exact h.elim
theorem aSrc_sound (hT : TyOk P C) {w : World} {S : St} (hg : Good C w S) {t e tx : TypeId} (hk : (C.T t).kind = .slice e) {q : AV} {y : Value} (hy : Rel w (rdOf S) q y) {K : List (List AV) → Prop} (h : aSrc C e tx q S K) :
    ∃ new news, K new ∧ Src P (C.T e).size tx y new.length news w ∧ RelL w (rdOf S) new.flatten news ∧ ∀ r ∈ new, r.length = (C.T e).size := by
  unfold aSrc at h
  split at h
  · rename_i s hkx
    rw [when_iff] at h
    obtain ⟨hsz, h⟩ := h
    have hsz := Nat.eq_of_beq_eq_true hsz
    simp only [Rel] at hy; subst hy
    refine ⟨_, byteCells s, h, ?_, RelL_bytes w _ _, by rw [← hsz]; exact rowsB_one s⟩
    rw [← hsz, rowsB_len]
    exact Src.ofString w (und_str hT hkx) s
  · rename_i e' b off n cap hkx
    rw [when_iff] at h
    obtain ⟨hee, te, cells, hS, hlen, h⟩ := h
    have hee := Nat.eq_of_beq_eq_true hee
    subst hee
    simp only [Rel] at hy; subst hy
    obtain ⟨cs, h1, h2, h3, h4⟩ := obj_cells hg.1 hS
    have hcl := RelL.length h2
    have hdl : ((cells.drop off).take (n * (C.T e').size)).length = n * (C.T e').size := by rw [List.length_take, List.length_drop]; omega
    obtain ⟨r1, r2, r3⟩ := rows_len (k := (C.T e').size) _ n hdl
    have hnl : ((cs.toList.drop off).take (n * (C.T e').size)).length = n * (C.T e').size := by rw [List.length_take, List.length_drop, ← hcl]; omega
    refine ⟨_, (cs.toList.drop off).take (n * (C.T e').size), h, ?_, by rw [r2]; exact RelL.take (RelL.drop h2 off) _, r1⟩
    rw [r3]
    refine Src.ofSlice w (und_slice hT hkx) ⟨b, off, none⟩ n cap _ hnl (fun j u hj => ?_) (fun u hu => h3 u (List.mem_of_mem_drop (List.mem_of_mem_take hu)))
    rw [List.getElem?_take] at hj
    split at hj
    · rw [List.getElem?_drop] at hj
      have := h4 _ u hj
      rw [Addr.add_lit]
      simpa using this
    · cases hj
  · exact h.elim
theorem aAppendArr_sound (hT : TyOk P C) {w : World} {S : St} (hg : Good C w S) {t t' ty : TypeId} {b n cap : Nat} {q : AV} {y : Value} (hy : Rel w (rdOf S) q y) {K : AV → St → Prop} (h : aAppendArr C t t' b n cap q S K) :
    ∃ z v w' S', K z S' ∧ Rel w' (rdOf S') z v ∧ Good C w' S' ∧ Adv w S w' S' ∧ (Builtin.append_ #[t, t'] ty #[.slice (some ⟨b, 0, none⟩) n cap, y]).run P w = .ok v w' := by
  unfold aAppendArr at h
  split at h
  · rename_i e sh k new hk
    rw [when_iff] at h
    obtain ⟨hb, cells, hS, ⟨hn, hcc, hcm, hlim⟩, h⟩ := h
    simp only [Bool.and_eq_true] at hb
    obtain ⟨hke, hpos, hbpos, htt, hkk⟩ := hb
    have hpos : 0 < (C.T e).size := by have := Nat.le_of_ble_eq_true hpos; omega
    have hbpos : 0 < (C.T e).bytes := by have := Nat.le_of_ble_eq_true hbpos; omega
    have htt := Nat.eq_of_beq_eq_true htt
    have hkk := Nat.eq_of_beq_eq_true hkk
    subst htt
    have hu := und_slice hT hk
    obtain ⟨i, d, hi, his, hib, hiz, _, _, hzs, hz1⟩ := ty_info hT hke
    have hnle : n + new.length ≤ 140737488355328 := Nat.le_trans (Nat.le_mul_of_pos_right _ hbpos) hlim
    obtain ⟨cs, h1, h2, h3, h4⟩ := obj_cells hg.1 hS
    have hcl : cells.length = cs.size := by simpa using RelL.length h2
    have hnewlen : ∀ r ∈ new, r.length = k := by
      simp only [Rel] at hy
      rcases hy with ⟨_, rfl, _⟩ | ⟨b, off, cap, rfl, _, _, _, h4⟩
      · simp
      · exact RelRows.lens h4
    have hsrc : ∃ news, Src P i.size t y new.length news w ∧ RelL w (rdOf S) new.flatten news := by
      rcases src_cells hy with ⟨hn, base, c2, rfl⟩ | ⟨a, c2, news, rfl, m1, m2, m3, m4⟩
      · subst hn
        refine ⟨[], ?_, by simp [RelL]⟩
        cases base with
        | none =>
          refine ⟨.inl ⟨_, hu⟩, fun _ => rfl, ?_, ?_, by simp, fun _ h => by cases h⟩ <;> simp [Builtin.firstCells]
        | some a => exact Src.ofSlice w hu a 0 c2 [] (by simp) (fun j u hj => by simp at hj) (fun u hu => by simp at hu)
      · exact ⟨news, Src.ofSlice w hu a new.length c2 news (by rw [m1, his, hkk]) m2 m3, m4⟩
    obtain ⟨news, hs, hr⟩ := hsrc
    have h1n : news.length = new.length * k := by rw [hs.newsLen, his, hkk]
    have hfl : new.flatten.length = new.length * k := by rw [RelL.length hr, h1n]
    rw [split_iff] at h
    by_cases hroom : n + new.length ≤ cap
    · have h := h.1 (decide_eq_true hroom)
      have hnk : (n + new.length) * k ≤ cells.length := Nat.le_trans (Nat.mul_le_mul_right _ hroom) hcc
      rw [Nat.add_mul] at hnk
      have hfit : n * i.size + news.length ≤ cs.size := by rw [h1n, his, hkk, ← hcl]; exact hnk
      have hrun := run_append_room_src' (P := P) w t t ty e i hu hi b n cap cs h1 y new.length news hs hroom hfit
      rw [his, hkk] at hrun
      have hszn : (cs.toList.take (n * k) ++ news ++ cs.toList.drop (n * k + news.length)).toArray.size = cs.size := by
        simp only [List.size_toArray, List.length_append, List.length_take, List.length_drop, Array.length_toList]
        rw [his, hkk] at hfit; omega
      have hadv := Adv.setRow (cells' := setRange cells (n * k) new.flatten) hS h1 hszn
      refine ⟨_, _, _, _, h, by simp only [Rel], hg.mk ?_ hadv, hadv, hrun⟩
      intro b' o ho'
      by_cases hbb : b' = b
      · subst hbb
        rw [St.upd_same] at ho'
        cases ho'
        refine ⟨_, setRow_heap w b' cs _ e (0, 0) h1, ?_, ?_⟩
        · have := RelL.setRange (off := n * k) (RelL.mono hadv _ _ hr) (RelL.mono hadv _ _ h2) (by rw [hfl]; exact hnk)
          simpa using this
        · intro u hu'
          simp only [List.mem_append] at hu'
          rcases hu' with (hu' | hu') | hu'
          · exact h3 u (List.mem_of_mem_take hu')
          · exact hs.one u hu'
          · exact h3 u (List.mem_of_mem_drop hu')
      · rw [St.upd_ne _ _ _ _ hbb] at ho'
        exact OwnOk.mono hadv (setRow_other w b b' _ hbb) (hg.1 b' o ho')
    · have h := h.2 (decide_eq_false hroom)
      have hnk : n * k ≤ cs.size := by rw [← hcl]; exact Nat.le_trans (Nat.mul_le_mul_right _ hn) hcc
      have hol : (cs.toList.take (n * k)).length = n * k := by rw [List.length_take, Array.length_toList]; omega
      have holds : (Builtin.firstCells i.size n (.slice (some ⟨b, 0, none⟩) n cap)).run P w.drew = .ok (cs.toList.take (n * k)).toArray w.drew :=
        run_firstCells_some w.drew i.size n ⟨b, 0, none⟩ n cap _ (by rw [hol, his, hkk]) (fun j v hj => by
          rw [List.getElem?_take] at hj
          split at hj
          · have := h4 j v hj
            rw [Addr.add_lit]
            simpa using this
          · cases hj)
      have hrun := run_append_grow_src (P := P) w t t ty e i (C.T e).zero hu hi hiz (some ⟨b, 0, none⟩) n cap _ holds y new.length news hs (by omega) (by omega)
        (by rw [hib]; exact growslice_fits (by omega) hlim)
      have hge := grownCap_ge w (n + new.length) cap e
      have hcm' := grownCap_le_maxLen w (n + new.length) cap e (by simp only [maxLen]; omega)
      obtain ⟨z1, z2, z3, z4⟩ := zero_sound (P := P) hT hke w (rdOf S)
      have hgd : Good C w.drew S := hg.drew
      have hzz := zeros_sound (RelL.mono (Adv.refl w S).drew _ _ z2) (grownCap w (n + new.length) cap e - (n + new.length))
      have hz1' := zeros_one z3 (grownCap w (n + new.length) cap e - (n + new.length))
      obtain ⟨g1, g2, g3⟩ := newObj_sound (w := w.drew) hgd (e := e) (cells := cells.take (n * k) ++ (new.flatten ++ mulL 0 (cellsOf (ofV (C.T e).zero)) (grownCap w (n + new.length) cap e - (n + new.length))))
        (cs := (cs.toList.take (n * k) ++ news).toArray ++ Builtin.zeroCells (C.T e).zero.cells (grownCap w (n + new.length) cap e - (n + new.length)))
        (by
          have := RelL.append (RelL.take (RelL.mono (Adv.refl w S).drew _ _ h2) (n * k)) (RelL.append (RelL.mono (Adv.refl w S).drew _ _ hr) hzz)
          simpa [Builtin.zeroCells, List.append_assoc] using this)
        (by
          intro u hu'
          simp only [Array.toList_append, List.mem_append] at hu'
          rcases hu' with (hu' | hu') | hu'
          · exact h3 u (List.mem_of_mem_take hu')
          · exact hs.one u hu'
          · exact hz1' u hu')
      exact ⟨_, _, _, _, h _ _ g1 hge hcm', by simp only [Rel]; rfl, g2, (Adv.refl w S).drew.trans g3, hrun⟩
  · exact h.elim
end
end Go.Proofs.YtikkoaoibomofaaGreatDoor.Aw

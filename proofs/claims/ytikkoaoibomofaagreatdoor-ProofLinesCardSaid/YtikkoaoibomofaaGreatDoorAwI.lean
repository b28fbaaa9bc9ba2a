/-
  The abstract walk is sound: any operation, a region in the text's order, code, a function. No condition.
-/
import Derived.Lib.OthersKept
import Derived.Test.YtikkoaoibomofaaGreatDoorAwN
set_option linter.unusedVariables false
set_option linter.unusedSimpArgs false
namespace Go.Proofs.YtikkoaoibomofaaGreatDoor.Aw
open Go Go.RowKit

section
variable {P : Program} {C : Cx}
theorem aMM_sound {w : World} {rd} (mx : Bool) : ∀ (r : List AV) (vs : List Value) (p : AV) (x : Value), Rel w rd p x → RelL w rd r vs → ∀ {K : AV → Prop}, aMM mx p r K →
    ∃ z v, K z ∧ Rel w rd z v ∧ ((vs.foldlM (match mx with | true => Builtin.max2 | false => Builtin.min2) x : Sem Value)).run P w = .ok v w
  | [], vs, p, x, hx, hr, K, h => by
    simp only [RelL] at hr; subst hr
    have e : aMM mx p [] K = force p K := by cases p <;> rfl
    rw [e, force_eq] at h
    exact ⟨_, x, h, hx, rfl⟩
  | q :: r, vs, p, x, hx, hr, K, h => by
    simp only [RelL] at hr
    obtain ⟨u, us, rfl, h2, h3⟩ := hr
    cases p
    case int k a =>
      cases q
      case int k' b =>
        simp only [Rel] at hx h2
        subst hx; subst h2
        cases mx with
        | true =>
          obtain ⟨z, v, k1, k2, k3⟩ := aMM_sound true r us _ (.int k (if b > a then b else a)) (by simp only [Rel]) h3 h
          exact ⟨z, v, k1, k2, by simpa [List.foldlM_cons, Builtin.max2] using k3⟩
        | false =>
          obtain ⟨z, v, k1, k2, k3⟩ := aMM_sound false r us _ (.int k (if b < a then b else a)) (by simp only [Rel]) h3 h
          exact ⟨z, v, k1, k2, by simpa [List.foldlM_cons, Builtin.min2] using k3⟩
      all_goals exact False.elim h
    all_goals (cases q <;> exact False.elim h)
theorem RelL.one {w : World} {rd} {x : AV} {vs : List Value} (h : RelL w rd [x] vs) : ∃ v, vs = [v] ∧ Rel w rd x v := by
  simp only [RelL] at h
  obtain ⟨u, us, rfl, h1, rfl⟩ := h
  exact ⟨u, rfl, h1⟩
theorem RelL.two {w : World} {rd} {x y : AV} {vs : List Value} (h : RelL w rd [x, y] vs) : ∃ u v, vs = [u, v] ∧ Rel w rd x u ∧ Rel w rd y v := by
  simp only [RelL] at h
  obtain ⟨u, us, rfl, h1, v, vs, rfl, h2, rfl⟩ := h
  exact ⟨u, v, rfl, h1, h2⟩
theorem arr_of_list {α : Type} {a : Array α} {l : List α} (h : a.toList = l) : a = l.toArray := by cases a; simp_all

theorem aBuiltin_sound (hT : TyOk P C) {w : World} {S : St} (hg : Good C w S) {b : Builtin} {ts : Array TypeId} {ty : TypeId} {xs : List AV} {vs : Array Value} (hx : RelL w (rdOf S) xs vs.toList) {K : AV → St → Prop} (h : aBuiltin C b ts.toList xs S K) :
    ∃ z v w' S', K z S' ∧ Rel w' (rdOf S') z v ∧ Good C w' S' ∧ Adv w S w' S' ∧ ∀ cs, (builtin b ts ty cs vs).run P w = .ok (.value v) w' := by
  unfold aBuiltin at h
  split at h
  · rename_i t x ht
    obtain ⟨v, hv, hr⟩ := RelL.one hx
    obtain ⟨z, v', k1, k2, k3⟩ := aLen_sound (P := P) hT hg.1 (ty := ty) hr h
    exact ⟨z, v', w, S, k1, k2, hg, Adv.refl w S, fun cs => by rw [arr_of_list ht, arr_of_list hv]; simp [builtin, k3]⟩
  · rename_i t t' x y ht
    obtain ⟨u, v, hv, h1, h2⟩ := RelL.two hx
    split at h
    · split at h
      · rename_i e hk
        obtain ⟨new, news, k0, s1, s2, s3⟩ := aSrc_sound (P := P) hT hg hk h2 h
        obtain ⟨z, v', w', S', k1, k2, k3, k4, k5⟩ := aGrow_sound (P := P) hT hg (ty := ty) hk h1 s1 s2 s3 k0
        exact ⟨z, v', w', S', k1, k2, k3, k4, fun cs => by rw [arr_of_list ht, arr_of_list hv]; simp [builtin, k5]⟩
      · exact h.elim
    · rw [when_iff] at h
      obtain ⟨he, h⟩ := h
      have he := Nat.eq_of_beq_eq_true he
      subst he
      obtain ⟨z, v', w', S', k1, k2, k3, k4, k5⟩ := aAppend_sound (P := P) hT hg (ty := ty) h1 h2 h
      exact ⟨z, v', w', S', k1, k2, k3, k4, fun cs => by rw [arr_of_list ht, arr_of_list hv]; simp [builtin, k5]⟩
  · rename_i t x ht
    obtain ⟨v, hv, hr⟩ := RelL.one hx
    split at h
    · rename_i e b off n c hk
      simp only [Rel] at hr
      subst hr
      exact ⟨_, .int .i64 (c : Int), w, S, h, by simp only [Rel], hg, Adv.refl w S, fun cs => by rw [arr_of_list ht, arr_of_list hv]; simp [builtin, Builtin.cap_, run_underlying (und_slice hT hk), goInt]⟩
    · exact h.elim
  · rename_i x r
    simp only [RelL] at hx
    obtain ⟨u, us, hv, h1, h2⟩ := hx
    obtain ⟨z, v', k1, k2, k3⟩ := aMM_sound (P := P) true r us x u h1 h2 h
    exact ⟨z, v', w, S, k1, k2, hg, Adv.refl w S, fun cs => by simp only [builtin, Builtin.max_, hv]; simp [k3]⟩
  · rename_i x r
    simp only [RelL] at hx
    obtain ⟨u, us, hv, h1, h2⟩ := hx
    obtain ⟨z, v', k1, k2, k3⟩ := aMM_sound (P := P) false r us x u h1 h2 h
    exact ⟨z, v', w, S, k1, k2, hg, Adv.refl w S, fun cs => by simp only [builtin, Builtin.min_, hv]; simp [k3]⟩
  · exact h.elim

theorem optRel_map {w : World} {S : St} {a : Act} {env : Env} {n : Nat} (hg : Good C w S) (he : RelEnv w S a.tmps env n) (x : Option Operand) : OptRel w (rdOf S) (x.map (ev C env)) (x.map a.eval) := by
  cases x with
  | none => exact .inl ⟨rfl, rfl⟩
  | some x => exact .inr ⟨_, _, rfl, rfl, ev_sound hg he x⟩

theorem aFill_length (place : Nat → Option (Nat × Nat)) : ∀ (parts : List (Nat × AV)) (cells : List AV) {out : List AV}, aFill place cells parts = some out → out.length = cells.length
  | [], cells, out, h => by simp only [aFill, Option.some.injEq] at h; rw [h]
  | (i, x) :: r, cells, out, h => by
    simp only [aFill] at h
    cases hpl : place i with
    | none => rw [hpl] at h; cases h
    | some q =>
      obtain ⟨off, size⟩ := q
      rw [hpl] at h
      simp only [cond_eq_ite] at h
      split at h
      · rw [aFill_length place r _ h, setRange_length]
      · cases h
theorem Adv.setIter {w : World} {S : St} {b : Nat} {s : ByteArray} {pos : Nat} (hS : S b = some (.siter s pos)) (hb : w.heap[b]? = some (.stringIter s pos)) (pos' : Nat) : Adv w S (w.iterAt b s pos') (S.upd b (.siter s pos')) := by
  have hother : ∀ x, x ≠ b → (w.iterAt b s pos').heap[x]? = w.heap[x]? := fun x hx => by simp [World.iterAt, Array.getElem?_setIfInBounds_ne (Ne.symm hx)]
  refine ⟨rfl, rfl, rfl, by simp [World.iterAt], fun x hx hn => ?_, fun x off hx hr => ?_, fun x e' n hx => ?_⟩
  · have hne : x ≠ b := St.ne_of' hn hS
    exact ⟨by rw [St.upd_ne _ _ _ _ hne]; exact hn, hother x hne⟩
  · have hne : x ≠ b := by rintro rfl; simp only [rdOf, hS] at hr
    refine ⟨by simp only [rdOf, St.upd_ne _ _ _ _ hne]; exact hr, cell_of_block (hother x hne) off⟩
  · by_cases hne : x = b
    · subst hne
      simp only [World.shape?, hb] at hx
      cases hx
    · rw [shape_of_block (hother x hne)]; exact hx
theorem Good.setIter {w : World} {S : St} {b : Nat} {s : ByteArray} {pos : Nat} (hg : Good C w S) (hS : S b = some (.siter s pos)) (pos' : Nat) : Good C (w.iterAt b s pos') (S.upd b (.siter s pos')) := by
  have hb : w.heap[b]? = some (.stringIter s pos) := hg.1 b _ hS
  have hadv := Adv.setIter hS hb pos'
  refine hg.mk (fun x o ho => ?_) hadv
  by_cases hx : x = b
  · subst hx
    rw [St.upd_same] at ho
    cases ho
    exact Lib.iterAt_heap w x s pos pos' hb
  · rw [St.upd_ne _ _ _ _ hx] at ho
    refine OwnOk.mono hadv ?_ (hg.1 x o ho)
    simp [World.iterAt, Array.getElem?_setIfInBounds_ne (Ne.symm hx)]
/-- ANY OPERATION. -/
theorem evL_of {e : Operand → AV} {a : Act} {w : World} {rd} (E : ∀ x, Rel w rd (e x) (a.eval x)) : ∀ xs : List Operand, RelL w rd (xs.map e) (xs.map a.eval)
  | [] => by simp [RelL]
  | x :: xs => by simp only [List.map_cons, RelL]; exact ⟨_, _, rfl, E x, evL_of E xs⟩
theorem optRel_of {e : Operand → AV} {a : Act} {w : World} {rd} (E : ∀ x, Rel w rd (e x) (a.eval x)) (x : Option Operand) : OptRel w rd (x.map e) (x.map a.eval) := by
  cases x with
  | none => exact .inl ⟨rfl, rfl⟩
  | some x => exact .inr ⟨_, _, rfl, rfl, E x⟩
def okV (ok : Bool) (v : AV) (b : Bool) : AV := match ok with | true => .tu [v, .bool b] | false => v
theorem aOpE_sound (hT : TyOk P C) {o : Oper} {a : Act} {w : World} {S : St} {e : Operand → AV} (hg : Good C w S) (E : ∀ x, Rel w (rdOf S) (e x) (a.eval x)) {K Qp : AV → St → Prop} (h : aOpE P C o e S K Qp)
    {next : Act → World → Prop} {Q : Exit → Act → World → Prop}
    (hK : ∀ x v w' S', K x S' → Rel w' (rdOf S') x v → Good C w' S' → Adv w S w' S' → next (a.put o.dst v) w')
    (hQ : ∀ x v w' S', Qp x S' → Rel w' (rdOf S') x v → Good C w' S' → Adv w S w' S' → Q (.panic [{ v, recovered := false }]) a w') :
    o.wp P a w next Q := by
  have same : ∀ {z v}, K z S → Rel w (rdOf S) z v → (execOp a.eval o).run P w = .ok (.value v) w → o.wp P a w next Q := fun h1 h2 h3 => op_value h3 (hK _ _ _ _ h1 h2 hg (Adv.refl w S))
  unfold aOpE at h
  split at h
  case h_1 x ho =>
    rw [force_eq] at h
    exact same h (E x) (by simp [execOp, ho])
  case h_2 x ho =>
    rw [force_eq] at h
    exact same h (E x) (by simp [execOp, ho])
  case h_3 c x y ho =>
    split at h
    · rename_i b hb
      have hc := E c
      rw [hb] at hc
      simp only [Rel] at hc
      rw [split_iff, force_eq, force_eq] at h
      cases b with
      | true => exact same (h.1 rfl) (E x) (by simp [execOp, ho, hc, asBool])
      | false => exact same (h.2 rfl) (E y) (by simp [execOp, ho, hc, asBool])
    · exact h.elim
  case h_4 te ho =>
    rw [when_iff] at h
    obtain ⟨hk, h⟩ := h
    obtain ⟨z1, z2, z3, z4⟩ := zero_sound (P := P) hT hk w (rdOf S)
    obtain ⟨m1, m2, m3⟩ := newObj_sound hg (e := te) z2 z3
    have h := h _ m1
    rw [forceL_eq] at h
    refine op_value (v := .pointer (some ⟨w.heap.size, 0, none⟩)) ?_ (hK _ _ _ _ h (by simp only [Rel]) m2 m3)
    simp [execOp, ho, Instr.alloc, z1, newVar, newRow]
  case h_5 te x ho =>
    rw [force_eq, when_iff] at h
    obtain ⟨hk, h⟩ := h
    obtain ⟨z2, z3⟩ := RelL_cellsOf (E x) hk
    obtain ⟨m1, m2, m3⟩ := newObj_sound hg (e := te) z2 z3
    have h := h _ m1
    rw [forceL_eq] at h
    refine op_value (v := .pointer (some ⟨w.heap.size, 0, none⟩)) ?_ (hK _ _ _ _ h (by simp only [Rel]) m2 m3)
    simp [execOp, ho, Instr.box, newVar, newRow]
  case h_6 t parts ho =>
    split at h
    · rename_i fs hk
      split at h
      · rename_i cells hf
        rw [when_iff, forceL_eq] at h
        obtain ⟨hfs, h⟩ := h
        obtain ⟨fa, hu, he'⟩ := und_struct hT hk
        obtain ⟨z1, z2, z3, z4⟩ := zero_sound (P := P) hT (known_of hk (by simp)) w (rdOf S)
        have hfs' : (fa.toList.all fun f => known C f.type) = true := by
          rw [← he'] at hfs
          simpa [List.all_map] using hfs
        have hpl := places_of (P := P) hT fa.toList hfs'
        have hfill := aFill_sound (w := w) (rd := rdOf S) _ (parts.toList.map fun p => (p.1, e p.2)) (parts.toList.map fun p => (p.1, a.eval p.2)) _ _ cells
          (by simpa [List.map_map, Function.comp_def] using evL_of E (parts.toList.map (·.2))) (by simp [List.map_map, Function.comp_def]) z2 z3 hf
        obtain ⟨cs', f1, f2, f3⟩ := hfill
        refine same (v := .agg cs') h (by simp only [Rel]; exact ⟨cs', rfl, f2, f3⟩) ?_
        have hplaces : (fun (i : Nat) => ((fa.toList.map fun f => (f.offset, (C.T f.type).size)).toArray)[i]?) = fun (i : Nat) => (fs[i]?).map fun (f : Nat × TypeId) => (f.1, (C.T f.2).size) := by
          funext i
          rw [← he']
          simp [List.getElem?_map, Function.comp_def]
        rw [← hplaces] at f1
        simp [execOp, ho, Instr.build, z1, run_underlying hu, Array.mapM_eq_mapM_toList, run_places w _ _ hpl]
        simp at f1
        simp [f1]
      · exact h.elim
    · exact h.elim
  case h_7 t n' parts ho =>
    split at h
    · rename_i te hk
      rw [when_iff] at h
      obtain ⟨hk2, h⟩ := h
      simp only [Bool.and_eq_true] at hk2
      obtain ⟨hke, hsm, hsp⟩ := hk2
      have hsm := Nat.le_of_ble_eq_true hsm
      have hsp : 0 < (C.T te).size := by have := Nat.le_of_ble_eq_true hsp; omega
      split at h
      · rename_i cells hf
        have h := h _ hg.1.fresh
        rw [forceR_eq] at h
        have hu := und_slice hT hk
        obtain ⟨z1, z2, z3, z4⟩ := zero_sound (P := P) hT hke w (rdOf S)
        have hzs := zeros_sound z2 n'
        have hz1 := zeros_one z3 n'
        rw [z4] at hzs hz1
        have hfill := aFill_sound (w := w) (rd := rdOf S) _ (parts.toList.map fun p => (p.1, e p.2)) (parts.toList.map fun p => (p.1, a.eval p.2)) _ _ cells
          (by simpa [List.map_map, Function.comp_def] using evL_of E (parts.toList.map (·.2))) (by simp [List.map_map, Function.comp_def]) hzs hz1 hf
        obtain ⟨cs', f1, f2, f3⟩ := hfill
        have hcl : cells.length = n' * (C.T te).size := by
          rw [aFill_length _ _ _ hf, mulL_length, RelL.length z2, Array.length_toList, z4]
        obtain ⟨r1, r2, r3⟩ := rows_len (k := (C.T te).size) cells n' hcl
        have hadv := Adv.allocOwn (w := w) (.cells cs' te) (.tip te (C.T te).size n') hg.1.fresh
        have hcsz : cs'.size = n' * (C.T te).size := by rw [← hcl]; simpa using (RelL.length f2).symm
        have hrun : (execOp a.eval o).run P w = .ok (.value (.slice (some ⟨w.heap.size, 0, none⟩) n' n')) (w.alloc (.cells cs' te)) := by
          have hno : ¬ n' * (C.T te).size > 2 ^ 24 := by omega
          have hno' : ¬ 2 ^ 24 < n' * (C.T te).size := hno
          by_cases hz : n' * (C.T te).size = 0
          · have hn0 : n' = 0 := by
              rcases Nat.mul_eq_zero.1 hz with h | h
              · exact h
              · omega
            subst hn0
            have hr0 : ∀ f : Nat → Value, Array.map f (Array.range 0) = #[] := fun f => Array.eq_empty_of_size_eq_zero (by simp)
            simp only [Nat.zero_mul, hr0] at f1
            simp [execOp, ho, Instr.buildSlice, run_underlying hu, run_size hT hke, newRow, hr0, f1]
          · simp [execOp, ho, Instr.buildSlice, run_underlying hu, run_size hT hke, hz, newRow, z1, z4, hno']
            simp [f1]
        have hmx : n' ≤ maxLen := by
          have : n' ≤ n' * (C.T te).size := Nat.le_mul_of_pos_right _ hsp
          simp only [maxLen]; omega
        refine op_value hrun (hK _ _ _ _ h ?_ (hg.mk (hg.1.allocOwn _ _ ⟨cs', n', heap_alloc_new w _, Nat.le_refl _, hmx, hcsz, f3⟩) hadv) hadv)
        have hb : (w.alloc (.cells cs' te)).heap[w.heap.size]? = some (.cells cs' te (0, 0)) := heap_alloc_new w _
        simp only [Rel]
        refine .inr ⟨w.heap.size, 0, n', by rw [r3], by rw [r3]; exact Nat.le_refl _, hmx, ⟨rfl, rfl, te, by simp only [World.shape?, hb, hcsz]⟩, ?_⟩
        refine RelRows.of_cells r1 (by rw [r2]; exact RelL.mono hadv _ _ f2) (fun i v hv => ?_) f3 (fun i hi => ?_)
        · rw [Nat.zero_add, cell_of_row _ _ i cs' te (0, 0) hb]
          simpa using hv
        · simp only [rdOf, St.upd_same]
          rw [r3] at hi
          omega
      · exact h.elim
    · exact h.elim
  case h_8 t p ho =>
    obtain ⟨z, v, k1, k2, k3⟩ := aLoad_sound (P := P) hT hg.1 (E p) h
    exact same k1 k2 (by simp [execOp, ho, k3])
  case h_9 t p x ho =>
    rw [force_eq] at h
    obtain ⟨w', S', k1, k2, k3, k4⟩ := aStore_sound (P := P) hT hg (E p) (E x) h
    exact op_skip (by simp [execOp, ho, k4]) (hK .top _ _ _ k1 (by simp only [Rel]) k2 k3)
  case h_10 x ho =>
    have hx := E x
    split at h
    · rename_i hv
      rw [hv] at hx
      have hx' := hx
      simp only [Rel] at hx'
      exact same h hx (by simp [execOp, ho, hx'])
    · rename_i hv
      rw [hv] at hx
      have hx' := hx
      simp only [Rel] at hx'
      obtain ⟨b, off, e1, _⟩ := hx'
      exact same h hx (by simp [execOp, ho, e1])
    · rename_i hv
      rw [hv] at hx
      have hx' := hx
      simp only [Rel] at hx'
      obtain ⟨y, e1, _⟩ := hx'
      exact same h hx (by simp [execOp, ho, e1])
    · rename_i hv
      rw [hv] at hx
      have hx' := hx
      simp only [Rel] at hx'
      obtain ⟨b, c, e1, _⟩ := hx'
      exact same h hx (by simp [execOp, ho, e1])
    · exact h.elim
  case h_11 op t x y yt ho =>
    split at h
    · rename_i pos es hn
      obtain ⟨c, k1, k2⟩ := nilTest_sound (P := P) hT (ρ := a.eval) (E x) (E y) hn
      refine same (v := .bool c) (h c k1) (by simp only [Rel]) ?_
      simp only [execOp, ho]
      rw [Sem.run_bind, k2]; rfl
    · obtain ⟨z, v, k1, k2, k3⟩ := aBin_sound (P := P) hT (ρ := a.eval) (E x) (E y) h
      refine same k1 k2 ?_
      simp only [execOp, ho]
      rw [Sem.run_bind, k3]; rfl
  case h_12 op t x ho =>
    obtain ⟨z, v, k1, k2, k3⟩ := aUn_sound (P := P) (E x) h
    exact same k1 k2 (by simp [execOp, ho, k3])
  case h_13 s d x ho =>
    obtain ⟨z, v, w', k1, k2, k3, k4, k5⟩ := aConv_sound (P := P) hT hg (E x) h
    exact op_value (by simp [execOp, ho, k5]) (hK _ _ _ _ k1 k2 k3 k4)
  case h_14 t x ho =>
    split at h
    · exact h.elim
    · exact h.elim
    · rename_i hn1 hn2
      rw [force_eq] at h
      have hkk : known C t = true := by unfold known; split; (· rename_i hh; exact absurd hh hn2); rfl
      obtain ⟨_, d, _, _, _, _, hd, hkd, _⟩ := ty_info hT hkk
      refine same (v := .iface t (a.eval x)) h (by simp only [Rel]; exact ⟨_, rfl, E x⟩) ?_
      have : ∀ ms, d ≠ .interface ms := fun ms hms => by subst hms; exact hn1 _ hkd.symm
      have hm : (Instr.makeInterface t (a.eval x)).run P w = .ok (.iface t (a.eval x)) w := by
        simp only [Instr.makeInterface, Sem.run_bind, run_underlying hd, Result.andThen_ok]
        cases d <;> first | rfl | exact absurd rfl (this _)
      simp [execOp, ho, hm]
  case h_15 f b c ho =>
    rw [forceL_eq, forceL_eq] at h
    refine same (v := .func f (b.map a.eval) (c.map a.eval)) h ?_ (by simp [execOp, ho, Instr.makeFunc])
    simp only [Rel]
    exact ⟨_, _, rfl, by simpa using evL_of E b.toList, by simpa using evL_of E c.toList⟩
  case h_16 t x lo hi mx ho =>
    obtain ⟨z, v, k1, k2, k3⟩ := aSlice_sound (P := P) hT (E x) (optRel_of E lo) (optRel_of E hi) (optRel_of E mx) h
    exact same k1 k2 (by simp [execOp, ho, k3])
  case h_17 t p f ho =>
    obtain ⟨z, v, k1, k2, k3⟩ := aFieldAddr_sound (P := P) hT (E p) h
    exact same k1 k2 (by simp [execOp, ho, k3])
  case h_18 t p f ho =>
    obtain ⟨z, v, k1, k2, k3⟩ := aField_sound (P := P) hT (E p) h
    exact same k1 k2 (by simp [execOp, ho, k3])
  case h_19 t x i ho =>
    obtain ⟨z, v, k1, k2, k3⟩ := aIndexAddr_sound (P := P) hT (E x) (E i) h
    exact same k1 k2 (by simp [execOp, ho, k3])
  case h_20 t x i ho =>
    obtain ⟨z, v, k1, k2, k3⟩ := aIndex_sound (P := P) hT (E x) (E i) h
    exact same k1 k2 (by simp [execOp, ho, k3])
  case h_21 x i ho =>
    have hx := E x
    split at h
    · rename_i xs hv
      rw [hv] at hx
      simp only [Rel] at hx
      obtain ⟨cs, e1, hr⟩ := hx
      split at h
      · rename_i y r hd
        rw [force_eq] at h
        have hg' : xs[i]? = some y := by
          have : (xs.drop i)[0]? = some y := by rw [hd]; rfl
          simpa using this
        obtain ⟨v, h1, h2⟩ := RelL.get hr i y hg'
        have h1' : cs[i]? = some v := by simpa using h1
        exact same h h2 (by simp [execOp, ho, e1, Instr.extract, h1'])
      · exact h.elim
    · exact h.elim
  case h_22 t l c ho =>
    split at h
    · rename_i te k1 n k2 m hk hl hc
      rw [when_iff] at h
      obtain ⟨hke, ⟨m0, m1, m2, m3⟩, h⟩ := h
      have hl' := E l
      have hc' := E c
      rw [hl] at hl'
      rw [hc] at hc'
      simp only [Rel] at hl' hc'
      obtain ⟨i, d, hi, his, hib, hiz, _, _, hzs, hz1⟩ := ty_info (P := P) hT hke
      obtain ⟨z1, z2, z3, z4⟩ := zero_sound (P := P) hT hke w (rdOf S)
      have hrun := run_make (P := P) w t te i (C.T te).zero (und_slice hT hk) hi hiz k1 k2 n m m0 m1 (by rw [hib]; omega) m3
      have hzs' := zeros_sound z2 m.toNat
      have hz1' := zeros_one z3 m.toNat
      rw [z4, ← his] at hzs' hz1'
      obtain ⟨g1, g2, g3⟩ := newObj_sound hg (e := te) (cs := madeCells (C.T te).zero.cells (m.toNat * i.size)) (cells := mulL 0 (cellsOf (ofV (C.T te).zero)) m.toNat) (by unfold madeCells; rw [z4, ← his]; exact hzs') (by unfold madeCells; rw [z4, ← his]; exact hz1')
      exact op_value (v := .slice (some ⟨w.heap.size, 0, none⟩) n.toNat m.toNat) (by simp [execOp, ho, hl', hc', hrun]) (hK _ _ _ _ (h _ g1) (by simp only [Rel]) g2 g3)
    · exact h.elim
  case h_23 x xt asserted ok ho =>
    have hx := E x
    have conc : ∀ (d : TypeDesc), (∀ ms, d ≠ .interface ms) → P.underlying asserted = some d → (∀ ms, (C.T asserted).kind ≠ .iface ms) → True := fun _ _ _ _ => trivial
    split at h
    · exact h.elim
    · exact h.elim
    · rename_i hn1 hn2
      have hkk : known C asserted = true := by unfold known; split; (· rename_i hh; exact absurd hh hn2); rfl
      obtain ⟨_, d, _, _, _, _, hd, hkd, _⟩ := ty_info (P := P) hT hkk
      have hni : ∀ ms, d ≠ .interface ms := fun ms hms => by subst hms; exact hn1 _ hkd.symm
      obtain ⟨z1, z2, z3, z4⟩ := zero_sound (P := P) hT hkk w (rdOf S)
      split at h
      · rename_i hv
        rw [hv] at hx
        simp only [Rel] at hx
        rw [force_eq] at h
        refine same (v := .tuple #[(C.T asserted).zero, .bool false]) h (by simp only [Rel, RelL]; exact ⟨_, rfl, _, _, rfl, Rel_ofV _ _ _, _, _, rfl, rfl, rfl⟩) ?_
        simp only [execOp, ho, hx, Instr.typeAssert, Sem.run_bind, run_underlying hd, Result.andThen_ok]
        cases d <;> first | (exact absurd rfl (hni _)) | simp [z1]
      · rename_i t y hv
        rw [hv] at hx
        simp only [Rel] at hx
        obtain ⟨u, hx, hr⟩ := hx
        split at h
        · rename_i hb
          have hb := Nat.eq_of_beq_eq_true hb
          rw [force_eq] at h
          refine same (v := .tuple #[u, .bool true]) h (by simp only [Rel, RelL]; exact ⟨_, rfl, _, _, rfl, hr, _, _, rfl, rfl, rfl⟩) ?_
          simp only [execOp, ho, hx, Instr.typeAssert, Sem.run_bind, run_underlying hd, Result.andThen_ok]
          cases d <;> first | (exact absurd rfl (hni _)) | simp [hb]
        · rename_i hb
          have hb : ¬ t = asserted := fun hh => by rw [hh, Nat.beq_refl] at hb; cases hb
          rw [force_eq] at h
          refine same (v := .tuple #[(C.T asserted).zero, .bool false]) h (by simp only [Rel, RelL]; exact ⟨_, rfl, _, _, rfl, Rel_ofV _ _ _, _, _, rfl, rfl, rfl⟩) ?_
          simp only [execOp, ho, hx, Instr.typeAssert, Sem.run_bind, run_underlying hd, Result.andThen_ok]
          cases d <;> first | (exact absurd rfl (hni _)) | simp [hb, z1]
      · rename_i t y hv
        rw [hv] at hx
        simp only [Rel] at hx
        obtain ⟨u, hx, hr⟩ := hx
        rw [when_iff, force_eq] at h
        obtain ⟨hb, h⟩ := h
        have hb := Nat.eq_of_beq_eq_true hb
        refine same (v := u) h hr ?_
        simp only [execOp, ho, hx, Instr.typeAssert, Sem.run_bind, run_underlying hd, Result.andThen_ok]
        cases d <;> first | (exact absurd rfl (hni _)) | simp [hb]
      · exact h.elim
  case h_24 t ho =>
    split at h
    · rename_i kt et hk
      have hS := hg.1.fresh
      have hadv := Adv.allocOwn (w := w) (.map #[] 0) (.mapo []) hS
      refine op_value (v := .map (some w.heap.size)) ?_ (hK _ _ _ _ (h _ hS) (by simp only [Rel]) (hg.mk (hg.1.allocOwn _ _ ⟨#[], 0, heap_alloc_new w _, by simp [RelL], by simp [RelL], by simp [BornOk]⟩) hadv) hadv)
      simp [execOp, ho, Instr.makeMap, newObj, Sem.run]
    · exact h.elim
  case h_25 t m k v ho =>
    have hm := E m
    split at h
    · rename_i kt et r hk hv
      rw [hv] at hm
      simp only [Rel] at hm
      rw [force_eq, force_eq, when_iff] at h
      obtain ⟨hok, es, hS, h⟩ := h
      obtain ⟨es', w', k1, k2, k3, k4⟩ := mapUpdate_sound (P := P) hT hg hk (E k) (E v) hok hS h
      exact op_skip (by simp [execOp, ho, hm, k4]) (hK .top _ _ _ k1 (by simp only [Rel]) k2 k3)
    · exact h.elim
  case h_26 t m k v ho =>
    have hm := E m
    split at h
    · rename_i kt et r hk hv
      rw [hv] at hm
      simp only [Rel] at hm
      rw [force_eq, force_eq, when_iff] at h
      obtain ⟨hok, es, hS, h⟩ := h
      obtain ⟨es', w', k1, k2, k3, k4⟩ := mapUpdate_sound (P := P) hT hg hk (E k) (E v) hok hS h
      exact op_skip (by simp [execOp, ho, hm, k4]) (hK .top _ _ _ k1 (by simp only [Rel]) k2 k3)
    · exact h.elim
  case h_27 t m k ok ho =>
    have hm := E m
    have fin : ∀ {kt et : Nat} {es : List (AV × AV)}, (C.T t).kind = .map kt et → keyOk C kt (e k) = true → known C et = true → ((a.eval m = .map none ∧ es = []) ∨ ∃ r, a.eval m = .map (some r) ∧ S r = some (.mapo es)) →
        aFindK (e k) es (fun v => K (okV ok v true) S) (K (okV ok (ofV (C.T et).zero) false) S) → o.wp P a w next Q := by
      intro kt et es hk hok hke hm' hh
      rcases lookup_sound (P := P) hT hg hk (E k) hok hke hm' hh ok with ⟨v, u, k1, k2, k3⟩ | ⟨k1, k3⟩
      · refine same k1 ?_ (by simp only [execOp, ho]; rw [Sem.run_bind, k3]; rfl)
        cases ok
        · exact k2
        · simp only [Rel, RelL]
          exact ⟨_, rfl, _, _, rfl, k2, _, _, rfl, rfl, rfl⟩
      · refine same k1 ?_ (by simp only [execOp, ho]; rw [Sem.run_bind, k3]; rfl)
        cases ok
        · exact Rel_ofV _ _ _
        · simp only [Rel, RelL]
          exact ⟨_, rfl, _, _, rfl, Rel_ofV _ _ _, _, _, rfl, rfl, rfl⟩
    split at h
    · rename_i kt et r hk hv
      rw [hv] at hm
      simp only [Rel] at hm
      simp only [force_eq, when_iff, Bool.and_eq_true] at h
      obtain ⟨⟨hok, hke⟩, es, hS, h⟩ := h
      exact fin hk hok hke (.inr ⟨r, hm, hS⟩) (by cases ok <;> exact h)
    · rename_i kt et hk hv
      rw [hv] at hm
      simp only [Rel] at hm
      simp only [force_eq, when_iff, Bool.and_eq_true] at h
      obtain ⟨⟨hok, hke⟩, h⟩ := h
      exact fin (es := []) hk hok hke (.inl ⟨hm, rfl⟩) (by cases ok <;> exact h)
    · exact h.elim
  case h_28 t x ho =>
    split at h
    · rename_i s hk hv
      have hu := und_str hT hk
      have hx := E x
      rw [hv] at hx
      simp only [Rel] at hx
      have hS := hg.1.fresh
      have hadv := Adv.allocOwn (.stringIter s 0) (.siter s 0) hS
      refine op_value (v := .pointer (some ⟨w.heap.size, 0, none⟩)) ?_ (hK _ _ _ _ (h _ hS) (by simp only [Rel]) (hg.mk (hg.1.allocOwn _ _ (heap_alloc_new w _)) hadv) hadv)
      simp [execOp, ho, hx, Instr.range, run_underlying hu, newObj, Sem.run]
    · rename_i kt et r hk hv
      have hu := und_map hT hk
      have hx := E x
      rw [hv] at hx
      simp only [Rel] at hx
      obtain ⟨es, hS, h⟩ := h
      obtain ⟨ms, clock, hb, h1, h2, h3⟩ := hg.1 r _ hS
      have hgd : Good C w (S.del r) := hg.mk (hg.1.del r) (Adv.del r)
      have hS' := hgd.1.fresh
      have hadv := Adv.allocOwn (w := w) (.mapIter (some r) clock #[] clock) (.miter none es) hS'
      have hlt : r < w.heap.size := lt_of_block hb
      have hne : r ≠ w.heap.size := Nat.ne_of_lt hlt
      refine op_value (v := .pointer (some ⟨w.heap.size, 0, none⟩)) ?_ (hK _ _ _ _ (h _ hS') (by simp only [Rel]) (hgd.mk (hgd.1.allocOwn _ _ ⟨some r, clock, #[], clock, heap_alloc_new w _, fun off => ?_, ms, ?_, rfl, h3, ?_, ?_, fun _ hh => by cases hh⟩) hadv) ((Adv.del r).trans hadv))
      · simp [execOp, ho, hx, Instr.range, run_underlying hu, newObj, getObj, Sem.run, hb]
      · simp only [rdOf, St.upd_ne _ _ _ _ hne, St.del_same]
      · rw [heap_alloc_lt w _ hlt]; exact hb
      · rw [List.filter_eq_self.2 (by simp)]; exact RelL.mono ((Adv.del r).trans hadv) _ _ h1
      · rw [List.filter_eq_self.2 (by simp)]; exact RelL.mono ((Adv.del r).trans hadv) _ _ h2
    · rename_i kt et hk hv
      have hu := und_map hT hk
      have hx := E x
      rw [hv] at hx
      simp only [Rel] at hx
      have hS := hg.1.fresh
      have hadv := Adv.allocOwn (w := w) (.mapIter none 0 #[] 0) (.miter none []) hS
      refine op_value (v := .pointer (some ⟨w.heap.size, 0, none⟩)) ?_ (hK _ _ _ _ (h _ hS) (by simp only [Rel]) (hg.mk (hg.1.allocOwn _ _ ⟨none, 0, #[], 0, heap_alloc_new w _, rfl, rfl⟩) hadv) hadv)
      simp [execOp, ho, hx, Instr.range, run_underlying hu, newObj, Sem.run]
    · exact h.elim
  case h_29 x ho =>
    split at h
    · rename_i b hv
      obtain ⟨s, pos, hS, h⟩ := h
      have hb : w.heap[b]? = some (.stringIter s pos) := hg.1 b _ hS
      have hx := E x
      rw [hv] at hx
      simp only [Rel] at hx
      rw [split_iff] at h
      by_cases hp : pos < s.size
      · have hrun := Lib.run_next_any_at (P := P) w b s pos o.type hb hp
        refine op_value (v := .tuple #[.bool true, .int .i64 pos, .int .i32 (Utf8.decode s pos).1]) ?_ (hK _ _ _ _ (h.1 (decide_eq_true hp)) ?_ (hg.setIter hS _) (Adv.setIter hS hb _))
        · simp only [execOp, ho, hx]
          rw [Sem.run_bind, hrun]; rfl
        · simp [Rel, RelL]
      · have hrun := Lib.run_next_end_at (P := P) w b s pos o.type hb hp
        refine same (v := .tuple #[.bool false]) (h.2 (decide_eq_false hp)) (by simp [Rel, RelL]) ?_
        simp only [execOp, ho, hx]
        rw [Sem.run_bind, hrun]; rfl
    · exact h.elim
  case h_30 x ho =>
    split at h
    · rename_i b hv
      obtain ⟨cur, left, hS, h0, h1⟩ := h
      have hx := E x
      rw [hv] at hx
      simp only [Rel] at hx
      obtain ⟨z, v, w', S', k1, k2, k3, k4, k5⟩ := next_map_sound (P := P) hg hS o.type h0 h1
      exact op_value (by simp only [execOp, ho, hx]; rw [Sem.run_bind, k5]; rfl) (hK _ _ _ _ k1 k2 k3 k4)
    · exact h.elim
  case h_31 x ho =>
    split at h
    · rename_i b hv
      obtain ⟨kv, left, hS, h⟩ := h
      have hx := E x
      rw [hv] at hx
      simp only [Rel] at hx
      obtain ⟨v, k1, k2⟩ := entry_map_sound (P := P) hg hS
      exact same h k1 (by simp only [execOp, ho, hx]; rw [Sem.run_bind, k2]; rfl)
    · exact h.elim
  case h_32 x ho =>
    have hx := E x
    split at h
    · rename_i t y hv
      rw [hv] at hx
      have hx' := hx
      simp only [Rel] at hx'
      obtain ⟨u, e1, _⟩ := hx'
      refine op_panic (v := a.eval x) ?_ (hQ _ _ _ _ h hx hg (Adv.refl w S))
      simp [execOp, ho, e1, Instr.panic]
    · exact h.elim
  case h_33 c ho =>
    split at h
    · rename_i b hc
      obtain ⟨z, v, w', S', k1, k2, k3, k4, k5⟩ := aBuiltin_sound (P := P) hT hg (ty := o.type) (vs := c.args.map a.eval) (by simpa using evL_of E c.args.toList) h
      refine op_value ?_ (hK _ _ _ _ k1 k2 k3 k4)
      simp [execOp, ho, resolve, hc, invoke, k5]
    · rename_i f hc
      unfold aCall at h
      split at h
      · rename_i g first cap hf
        rw [forceL_eq] at h
        have hx := E f
        rw [hf] at hx
        simp only [Rel] at hx
        obtain ⟨b1, b2, e1, r1, r2⟩ := hx
        have hargs : RelL w (rdOf S) (first ++ (c.args.toList.map (e)) ++ cap) (b1 ++ c.args.map a.eval ++ b2).toList := by
          simp only [Array.toList_append, Array.toList_map]
          exact RelL.append (RelL.append r1 (evL_of E c.args.toList)) r2
        have hcall := h.out w _ hg hargs
        have hrun : (execOp a.eval o).run P w = .ok (.enter g (b1 ++ c.args.map a.eval ++ b2)) w := by
          simp [execOp, ho, resolve, hc, e1, Deferred.ofValue, invoke]
          simpa using h.enter (b1 ++ c.args.map a.eval ++ b2) w
        unfold Oper.wp
        rw [hrun, Oper.upon_enter]
        refine hcall.mono fun e w' hpost => ?_
        obtain ⟨o', S', h1, h2, h3, h4⟩ := hpost
        cases o' with
        | ret x =>
          cases e with
          | returned v => exact hK _ _ _ _ h4 h1 h2 h3
          | panicked chain => exact h1.elim
          | outgrown => exact h1.elim
        | pan x =>
          cases e with
          | returned v => exact h1.elim
          | panicked chain =>
            obtain ⟨v, rfl, hv⟩ := h1
            exact hQ _ _ _ _ h4 hv h2 h3
          | outgrown => exact h1.elim
      · exact h.elim
    · exact h.elim
  case h_34 => exact h.elim
theorem aOp_sound (hT : TyOk P C) {o : Oper} {a : Act} {w : World} {S : St} {env : Env} {n : Nat} (hg : Good C w S) (he : RelEnv w S a.tmps env n) {K Qp : AV → St → Prop} (h : aOp P C o env S K Qp)
    {next : Act → World → Prop} {Q : Exit → Act → World → Prop}
    (hK : ∀ x v w' S', K x S' → Rel w' (rdOf S') x v → Good C w' S' → Adv w S w' S' → next (a.put o.dst v) w')
    (hQ : ∀ x v w' S', Qp x S' → Rel w' (rdOf S') x v → Good C w' S' → Adv w S w' S' → Q (.panic [{ v, recovered := false }]) a w') :
    o.wp P a w next Q := by
  have main : ∀ {K : AV → St → Prop}, (∀ x v w' S', K x S' → Rel w' (rdOf S') x v → Good C w' S' → Adv w S w' S' → next (a.put o.dst v) w') → aOpE P C o (ev C env) S K Qp → o.wp P a w next Q := fun hK h => aOpE_sound hT hg (fun x => ev_sound hg he x) h hK hQ
  unfold aOp at h
  split at h
  · rename_i c ho
    split at h
    · rename_i t t' s x hc ht hx
      split at h
      · rename_i b n cap hs
        obtain ⟨z, v, w', S', k1, k2, k3, k4, k5⟩ := aAppendArr_sound (P := P) hT hg (ty := o.type) (ev_sound hg he x) h
        have hsv := ev_sound hg he s
        rw [hs] at hsv
        simp only [Rel] at hsv
        refine op_value (v := v) ?_ (hK _ _ _ _ k1 k2 k3 k4)
        have e1 : c.args.map a.eval = #[.slice (some ⟨b, 0, none⟩) n cap, a.eval x] := by
          have : c.args = #[s, x] := arr_of_list hx
          rw [this]; simp [hsv]
        simp [execOp, ho, resolve, hc, invoke, e1, arr_of_list ht, builtin, k5]
      · exact main hK h
    · exact main hK h
  · exact main hK h
end
end Go.Proofs.YtikkoaoibomofaaGreatDoor.Aw

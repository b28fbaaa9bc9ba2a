/-
  The abstract walk is sound: the operations, one by one. No condition.
-/
import Derived.Test.YtikkoaoibomofaaGreatDoorAwD
import Derived.Lib.Strings
import Derived.Laws.StructEq
set_option linter.unusedVariables false
set_option linter.unusedSimpArgs false
namespace Go.Proofs.YtikkoaoibomofaaGreatDoor.Aw
open Go Go.RowKit

theorem op_value {P : Program} {o : Oper} {a : Act} {w w' : World} {v : Value} {next : Act → World → Prop} {Q : Exit → Act → World → Prop}
    (h : (execOp a.eval o).run P w = .ok (.value v) w') (hn : next (a.put o.dst v) w') : o.wp P a w next Q := by
  unfold Oper.wp; rw [h]; exact hn
theorem op_skip {P : Program} {o : Oper} {a : Act} {w w' : World} {next : Act → World → Prop} {Q : Exit → Act → World → Prop}
    (h : (execOp a.eval o).run P w = .ok .skip w') (hn : next (a.put o.dst undef) w') : o.wp P a w next Q := by
  unfold Oper.wp; rw [h]; exact hn
theorem op_panic {P : Program} {o : Oper} {a : Act} {w w' : World} {v : Value} {next : Act → World → Prop} {Q : Exit → Act → World → Prop}
    (h : (execOp a.eval o).run P w = .halt (.panic v) w') (hn : Q (.panic [{ v, recovered := false }]) a w') : o.wp P a w next Q := by
  unfold Oper.wp; rw [h]; exact hn
theorem toList_eq (s t : ByteArray) : (s.toList == t.toList) = decide (s = t) := by
  have h : ∀ s : ByteArray, s.toList = s.data.toList := Lib.toList_data
  rw [h, h]
  by_cases e : s = t
  · subst e; simp
  · have : ¬ s.data.toList = t.data.toList := fun h => e (by
      have h' : s.data = t.data := by simpa using congrArg List.toArray h
      cases s; cases t; simp_all)
    rw [decide_eq_false e]
    exact beq_eq_false_iff_ne.2 this

section
variable {P : Program} {C : Cx}

theorem equal_open (xt : TypeId) (x y : Value) : Op.equal xt x y = Op.equalIn (9999 + 1) xt x y := rfl
theorem flatEq_sound (hT : TyOk P C) {w : World} {rd} {ft : TypeId} {p q : AV} {x y : Value} (hx : Rel w rd p x) (hy : Rel w rd q y) {r : Bool} (h : flatEq (C.T ft).kind p q = some r) :
    (C.T ft).agg = false ∧ known C ft = true ∧ ∀ d, (Op.equalIn (d + 1) ft x y).run P w = .ok r w := by
  unfold flatEq at h
  split at h
  · rename_i k k1 a k2 b hk
    simp only [Rel] at hx hy
    subst hx hy
    split at h
    · rename_i hkk
      have hkk := of_decide_eq_true hkk
      subst hkk
      simp only [Option.some.injEq] at h
      subst h
      refine ⟨by simp only [TI.agg, hk], known_of hk (by simp), fun d => run_equalIn_int w d ft k1 k a b (und_int hT hk)⟩
    · cases h
  · rename_i a b hk
    simp only [Rel] at hx hy
    subst hx hy
    simp only [Option.some.injEq] at h
    subst h
    refine ⟨by simp only [TI.agg, hk], known_of hk (by simp), fun d => ?_⟩
    rw [run_equalIn_string w d ft a b (und_str hT hk), toList_eq]
  · rename_i a b hk
    simp only [Rel] at hx hy
    subst hx hy
    simp only [Option.some.injEq] at h
    subst h
    exact ⟨by simp only [TI.agg, hk], known_of hk (by simp), fun d => run_equalIn_bool' w d ft a b (und_bool hT hk)⟩
  · cases h
theorem aEqF_sound (hT : TyOk P C) {w : World} {rd} {cs ds : Array Value} : ∀ (fs : List Field) (i : Nat) (xs ys : List AV), (fs.all fun f => f.name != "_") = true → RelL w rd xs (cs.toList.drop i) → RelL w rd ys (ds.toList.drop i) →
    ∀ {r : Bool}, aEqF C i (fs.map fun f => (f.offset, f.type)) xs ys = some r → ∀ d, (Op.eqFields (d + 1) cs ds fs).run P w = .ok r w
  | [], i, xs, ys, hn, hx, hy, r, h, d => by
    have : r = true := by
      simp only [List.map_nil] at h
      unfold aEqF at h
      split at h <;> simp_all
    subst this
    rfl
  | f :: fs, i, xs, ys, hn, hx, hy, r, h, d => by
    simp only [List.all_cons, Bool.and_eq_true, bne_iff_ne, ne_eq] at hn
    obtain ⟨hnf, hn⟩ := hn
    simp only [List.map_cons] at h
    cases xs with
    | nil => simp [aEqF] at h
    | cons x xs =>
      cases ys with
      | nil => simp [aEqF] at h
      | cons y ys =>
        simp only [aEqF] at h
        split at h
        · rename_i a hoff hfl
          have hoff := Nat.eq_of_beq_eq_true hoff
          split at h
          · rename_i b hb
            simp only [Option.some.injEq] at h
            subst h
            simp only [RelL] at hx hy
            obtain ⟨u, us, e1, hx1, hx2⟩ := hx
            obtain ⟨v, vs, e2, hy1, hy2⟩ := hy
            obtain ⟨g1, g2, g3⟩ := flatEq_sound (P := P) hT hx1 hy1 hfl
            have d1 : cs.toList.drop (i + 1) = us := by rw [← List.drop_drop, e1]; rfl
            have d2 : ds.toList.drop (i + 1) = vs := by rw [← List.drop_drop, e2]; rfl
            have c1 : cs[f.offset]? = some u := by
              rw [hoff]
              have : (cs.toList.drop i)[0]? = some u := by rw [e1]; rfl
              simpa using this
            have c2 : ds[f.offset]? = some v := by
              rw [hoff]
              have : (ds.toList.drop i)[0]? = some v := by rw [e2]; rfl
              simpa using this
            have p1 : (part f.type cs f.offset).run P w = .ok u w := by simp [part, run_isAgg hT g2, g1, c1]
            have p2 : (part f.type ds f.offset).run P w = .ok v w := by simp [part, run_isAgg hT g2, g1, c2]
            have rest := aEqF_sound hT fs (i + 1) xs ys hn (by rw [d1]; exact hx2) (by rw [d2]; exact hy2) hb d
            simp only [Op.eqFields, hnf, ne_eq, not_false_eq_true, if_true, Sem.run_bind, p1, p2, g3 d, Result.andThen_ok]
            cases a with
            | false => simp
            | true => simpa using rest
          · cases h
        · cases h
theorem aEq_sound (hT : TyOk P C) {w : World} {rd} {xt : TypeId} {p q : AV} {x y : Value} (hx : Rel w rd p x) (hy : Rel w rd q y) {r : Bool} (hr : aEq C xt p q = some r) :
    (Op.equal xt x y).run P w = .ok r w ∧ (∀ op ox oy, (eqGuard op xt ox oy x y).run P w = .ok () w) ∧
      (∀ op, op = .eql → binOp op xt x y = do pure (.bool (← Op.equal xt x y))) ∧ (∀ op, op = .neq → binOp op xt x y = do pure (.bool (!(← Op.equal xt x y)))) := by
  have hgd : ∀ (op : BinOp) (ox oy : Operand), (¬ (x = .nilIface ∧ y = .nilIface)) → (∀ cs, x ≠ .agg cs) → (eqGuard op xt ox oy x y).run P w = .ok () w := fun op ox oy h1 h2 => by
    unfold eqGuard
    cases op <;> simp <;> cases x <;> simp at h2 ⊢ <;> cases y <;> simp at h1 ⊢
  by_cases hs : ∃ fs xs ys, (C.T xt).kind = .strct fs ∧ p = .ag xs ∧ q = .ag ys
  · obtain ⟨fs, xs, ys, hk, rfl, rfl⟩ := hs
    unfold aEq at hr
    rw [hk] at hr
    dsimp only at hr
    split at hr
    · rename_i hE
      have hok := hT.2 xt hE
      obtain ⟨fa, hu, hfs⟩ := und_struct hT hk
      unfold EqOkB at hok
      rw [hu] at hok
      simp only [Bool.and_eq_true, Bool.not_eq_true'] at hok
      obtain ⟨⟨ho1, ho2⟩, ho3⟩ := hok
      simp only [Rel] at hx hy
      obtain ⟨cs, rfl, hx1, _⟩ := hx
      obtain ⟨ds, rfl, hy1, _⟩ := hy
      have hfo : P.fieldsOf xt = fa := by simp only [Program.fieldsOf, hu]
      have hrun : (Op.equal xt (.agg cs) (.agg ds)).run P w = .ok r w := by
        rw [equal_open, run_equalIn_struct w _ xt cs ds (by rw [hfo]; exact hu) ho1, hfo]
        exact aEqF_sound hT fa.toList 0 xs ys ho3 (by simpa using hx1) (by simpa using hy1) (by rw [hfs]; exact hr) 9998
      exact ⟨hrun, fun op ox oy => run_eqGuard_agg w op xt ox oy cs ds ho2, fun op ho => by subst ho; rfl, fun op ho => by subst ho; rfl⟩
    · cases hr
  unfold aEq at hr
  split at hr
  · rename_i hk; exact absurd ⟨_, _, _, hk, rfl, rfl⟩ hs
  all_goals simp only [Option.some.injEq, reduceCtorEq] at hr
  all_goals (rename_i hk; subst hr; simp only [Rel, Sh.mayNil, Bool.false_eq_true, reduceCtorEq, false_and, false_or, true_and] at hx hy)
  all_goals
    first
      | (have hu := und_bool hT hk)
      | (have hu := und_ptr hT hk)
      | (have hu := und_slice hT hk)
      | (obtain ⟨_, _, _, hu⟩ := und_fn hT hk)
      | (obtain ⟨_, hu⟩ := und_iface hT hk)
  all_goals
    first
      | (obtain ⟨_, _, _, rfl, _⟩ := hx)
      | (obtain ⟨_, _, rfl, _⟩ := hx)
      | (obtain ⟨_, rfl, _⟩ := hx)
      | (subst hx)
  all_goals
    first
      | (obtain ⟨_, _, _, rfl, _⟩ := hy)
      | (obtain ⟨_, _, rfl, _⟩ := hy)
      | (obtain ⟨_, rfl, _⟩ := hy)
      | (subst hy)
  all_goals
    refine ⟨?_, fun op ox oy => hgd op ox oy (by simp) (by simp), fun op ho => by subst ho; rfl, fun op ho => by subst ho; rfl⟩
    rw [equal_open]
    generalize 9999 = d
    simp [Op.equalIn, run_underlying hu]

theorem aBin_sound (hT : TyOk P C) {w : World} {rd} {op : BinOp} {xt : TypeId} {ρ : Operand → Value} {x y : Operand} {p q : AV} (hx : Rel w rd p (ρ x)) (hy : Rel w rd q (ρ y)) {K : AV → Prop} (h : aBin C op xt x y p q K) :
    ∃ z v, K z ∧ Rel w rd z v ∧ (do eqGuard op xt x y (ρ x) (ρ y); binOp op xt (ρ x) (ρ y) : Sem Value).run P w = .ok v w := by
  unfold aBin at h
  split at h
  · -- ints
    rename_i k m k' n
    simp only [Rel] at hx hy
    rw [hx, hy]
    have hgd : ∀ op, (eqGuard op xt x y (.int k m) (.int k' n)).run P w = .ok () w := fun op => by
      unfold eqGuard
      cases op <;> simp
    split at h
    · refine ⟨_, .int k (k.wrap (m * 2 ^ (min n.toNat k.bits))), h.2, by simp [Rel], ?_⟩
      have := h.1
      simp [hgd, binOp, Op.shift, show ¬ n < 0 by omega]
    · refine ⟨_, .int k (m.fdiv (2 ^ (min n.toNat k.bits))), h.2, by simp [Rel], ?_⟩
      have := h.1
      simp [hgd, binOp, Op.shift, show ¬ n < 0 by omega]
    · rename_i hs1 hs2
      rw [when_iff] at h
      obtain ⟨hk, h⟩ := h
      have hk : k = k' := of_decide_eq_true hk
      subst hk
      unfold aIntOp at h
      cases op <;> simp only at h <;> first
        | exact h.elim
        | exact absurd rfl hs1
        | exact absurd rfl hs2
        | exact ⟨_, _, h, by simp only [Rel]; rfl, by simp [hgd, binOp, Op.intArith, Op.intCmp]⟩
        | exact ⟨_, _, h.2, by simp only [Rel]; rfl, by simp [hgd, binOp, Op.intDiv, h.1]⟩
  · -- strings
    rename_i s t
    simp only [Rel] at hx hy
    rw [hx, hy]
    have hgd : ∀ op, (eqGuard op xt x y (.string s) (.string t)).run P w = .ok () w := fun op => by
      unfold eqGuard
      cases op <;> simp
    unfold aStrOp at h
    cases op <;> simp only at h
    case add =>
      refine ⟨_, .string (s ++ t), h.2, by simp [Rel], ?_⟩
      have h1 := h.1
      have : ¬ ((s.size + t.size : Nat) : Int) > IntKind.i64.max := by
        show ¬ ((s.size + t.size : Nat) : Int) > 9223372036854775807
        omega
      simp only [Sem.run_bind, hgd, Result.andThen_ok, binOp, Op.stringOp]
      rw [if_neg this]; rfl
    case eql =>
      refine ⟨_, .bool (decide (s = t)), h, by simp only [Rel], ?_⟩
      simp only [Sem.run_bind, hgd, Result.andThen_ok, binOp, Op.stringOp, toList_eq]; rfl
    case neq =>
      refine ⟨_, .bool (!decide (s = t)), h, by simp only [Rel], ?_⟩
      simp only [Sem.run_bind, hgd, Result.andThen_ok, binOp, Op.stringOp, toList_eq]; rfl
  · -- nil against nil
    simp only [Rel] at hx hy
    rw [hx, hy]
    have hc : ∀ op, (isConst x || isConst y) = true → (eqGuard op xt x y .nilIface .nilIface).run P w = .ok () w := fun op hc => by
      unfold eqGuard
      cases x <;> cases y <;> simp [isConst] at hc <;> cases op <;> simp
    split at h
    · rename_i hk
      obtain ⟨ms, hu⟩ := und_iface hT hk
      rw [when_iff] at h
      refine ⟨_, .bool true, h.2, by simp only [Rel], ?_⟩
      have he : (Op.equal xt .nilIface .nilIface).run P w = .ok true w := by
        rw [equal_open]; generalize 9999 = d; simp [Op.equalIn, run_underlying hu]
      simp [hc _ h.1, binOp, he]
    · rename_i hk
      obtain ⟨ms, hu⟩ := und_iface hT hk
      rw [when_iff] at h
      refine ⟨_, .bool false, h.2, by simp only [Rel], ?_⟩
      have he : (Op.equal xt .nilIface .nilIface).run P w = .ok true w := by
        rw [equal_open]; generalize 9999 = d; simp [Op.equalIn, run_underlying hu]
      simp [hc _ h.1, binOp, he]
    · exact h.elim
  · rename_i hn1 hn2 hn3
    split at h
    · split at h
      · rename_i r hr
        obtain ⟨k1, k2, k3, k4⟩ := aEq_sound (P := P) hT hx hy hr
        refine ⟨_, .bool r, h, by simp only [Rel], ?_⟩
        simp [k2, k3 _ rfl, k1]
      · exact h.elim
    · split at h
      · rename_i r hr
        obtain ⟨k1, k2, k3, k4⟩ := aEq_sound (P := P) hT hx hy hr
        refine ⟨_, .bool (!r), h, by simp only [Rel], ?_⟩
        simp [k2, k4 _ rfl, k1]
      · exact h.elim
    · exact h.elim
theorem nilTest_bin {op : BinOp} {xt : TypeId} {x y : Operand} {p q : AV} {r : Bool × List (List AV)} (hr : nilTest C op xt p q = some r) {K : AV → Prop} : ¬ aBin C op xt x y p q K := by
  unfold nilTest at hr
  split at hr
  · rename_i hk
    intro h
    unfold aBin aEq at h
    rw [hk] at h
    cases op <;> exact h
  · rename_i hk
    intro h
    unfold aBin aEq at h
    rw [hk] at h
    cases op <;> exact h
  · cases hr
theorem nilTest_sound (hT : TyOk P C) {w : World} {rd} {op : BinOp} {xt : TypeId} {ρ : Operand → Value} {x y : Operand} {p q : AV} (hx : Rel w rd p (ρ x)) (hy : Rel w rd q (ρ y)) {pos : Bool} {es : List (List AV)} (hr : nilTest C op xt p q = some (pos, es)) :
    ∃ c : Bool, (es ≠ [] → c = !pos) ∧ (do eqGuard op xt x y (ρ x) (ρ y); binOp op xt (ρ x) (ρ y) : Sem Value).run P w = .ok (.bool c) w := by
  have main : ∀ (e : TypeId) (sh : Sh) (k : Nat), (C.T xt).kind = .slice e → sh.mayNil = true → Rel w rd (.sl sh k es) (ρ x) → Rel w rd .nils (ρ y) → (op = .eql ∧ pos = true) ∨ (op = .neq ∧ pos = false) →
      ∃ c : Bool, (es ≠ [] → c = !pos) ∧ (do eqGuard op xt x y (ρ x) (ρ y); binOp op xt (ρ x) (ρ y) : Sem Value).run P w = .ok (.bool c) w := by
    intro e sh k hk hsh h1 h2 hop
    simp only [Rel] at h1
    rcases h1 with ⟨_, he, hv⟩ | ⟨b, off, cap, hv, m2, m3, m4, m5⟩
    · have hb : aBin C op xt x y .nils .nils (· = .bool pos) := by
        unfold aBin aEq
        rw [hk]
        rcases hop with ⟨rfl, rfl⟩ | ⟨rfl, rfl⟩ <;> rfl
      obtain ⟨z, v, rfl, k2, k3⟩ := aBin_sound (P := P) hT (ρ := ρ) (by simp only [Rel]; exact hv) h2 hb
      simp only [Rel] at k2
      subst k2
      exact ⟨pos, fun h => absurd he h, k3⟩
    · have hb : aBin C op xt x y (.sl .nn k es) .nils (· = .bool (!pos)) := by
        unfold aBin aEq
        rw [hk]
        rcases hop with ⟨rfl, rfl⟩ | ⟨rfl, rfl⟩ <;> rfl
      obtain ⟨z, v, rfl, k2, k3⟩ := aBin_sound (P := P) hT (ρ := ρ) (by simp only [Rel]; exact .inr ⟨b, off, cap, hv, m2, m3, trivial, m5⟩) h2 hb
      simp only [Rel] at k2
      subst k2
      exact ⟨!pos, fun _ => rfl, k3⟩
  unfold nilTest at hr
  split at hr
  · rename_i e k es' hk
    have : es' = es ∧ ((op = .eql ∧ pos = true) ∨ (op = .neq ∧ pos = false)) := by
      cases op <;> simp at hr <;> simp [hr.1, hr.2]
    obtain ⟨rfl, ho⟩ := this
    exact main e .any k hk rfl hx hy ho
  · rename_i e b k es' hk
    have : es' = es ∧ ((op = .eql ∧ pos = true) ∨ (op = .neq ∧ pos = false)) := by
      cases op <;> simp at hr <;> simp [hr.1, hr.2]
    obtain ⟨rfl, ho⟩ := this
    exact main e (.acc b) k hk rfl hx hy ho
  · cases hr
end
end Go.Proofs.YtikkoaoibomofaaGreatDoor.Aw

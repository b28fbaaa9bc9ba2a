/-
  The abstract walk is sound: a region in the text's order, code, a function; and the rules by which contracts are used. No condition.
-/
import Derived.Test.YtikkoaoibomofaaGreatDoorAwK
import Derived.Deep.LoopGhost
set_option linter.unusedVariables false
set_option linter.unusedSimpArgs false
namespace Go.Proofs.YtikkoaoibomofaaGreatDoor.Aw
open Go Go.RowKit

section
variable {P : Program} {C : Cx}

theorem aOps_sound (hT : TyOk P C) {n : Nat} (ops : Array Oper) : ∀ (l : List Oper), (∀ o ∈ l, ∀ d, o.dst = some d → d < n) → ∀ {a : Act} {w : World} {S : St} {env : Env}, Good C w S → RelEnv w S a.tmps env n →
    ∀ {K : Env → St → Prop} {Qp : AV → St → Prop}, aOps P C ops.toList l env S K Qp → ∀ {Q : Exit → Act → World → Prop},
    (∀ env' a' w' S', K env' S' → RelEnv w' S' a'.tmps env' n → a'.defers = a.defers → Good C w' S' → Adv w S w' S' → Q .normal a' w') →
    (∀ x v a' w' S', Qp x S' → Rel w' (rdOf S') x v → a'.tmps.size = n → a'.defers = a.defers → Good C w' S' → Adv w S w' S' → Q (.panic [{ v, recovered := false }]) a' w') →
    wpList P ops Q l a w
  | [], hd, a, w, S, env, hg, he, K, Qp, h, Q, hK, hQ => hK _ _ _ _ h he rfl hg (Adv.refl w S)
  | o :: r, hd, a, w, S, env, hg, he, K, Qp, h, Q, hK, hQ => by
    have hdr : ∀ o ∈ r, ∀ d, o.dst = some d → d < n := fun o ho => hd o (by simp [ho])
    have hdo : ∀ d, o.dst = some d → d < n := hd o (by simp)
    have hdef : ∀ v, (a.put o.dst v).defers = a.defers := fun v => by cases o.dst <;> rfl
    have rec_ : ∀ (env₁ : Env), RelEnv w S a.tmps env₁ n → aOp P C o env₁ S (fun x S' => aOps P C ops.toList r (put o.dst x env₁) S' K Qp) Qp → o.wp P a w (wpList P ops Q r) Q := fun env₁ he₁ h₁ =>
      aOp_sound hT hg he₁ h₁
        (fun x v w' S' k1 k2 k3 k4 => aOps_sound hT ops r hdr k3 ((he₁.mono k4).put o.dst hdo k2) k1
          (fun env' a' w'' S'' m1 m2 m3 m4 m5 => hK env' a' w'' S'' m1 m2 (m3.trans (hdef v)) m4 (k4.trans m5))
          (fun x' v' a' w'' S'' m1 m2 m0 m3 m4 m5 => hQ x' v' a' w'' S'' m1 m2 m0 (m3.trans (hdef v)) m4 (k4.trans m5)))
        (fun x v w' S' k1 k2 k3 k4 => hQ x v a w' S' k1 k2 he.size rfl k3 k4)
    have skip_ : ∀ (env₁ : Env), RelEnv w S a.tmps env₁ n → aOps P C ops.toList r (put o.dst .top env₁) S K Qp → wpList P ops Q r (a.put o.dst undef) w := fun env₁ he₁ h₁ =>
      aOps_sound hT ops r hdr hg (he₁.put o.dst hdo (by simp only [Rel])) h₁
        (fun env' a' w'' S'' m1 m2 m3 m4 m5 => hK env' a' w'' S'' m1 m2 (m3.trans (hdef undef)) m4 m5)
        (fun x' v' a' w'' S'' m1 m2 m0 m3 m4 m5 => hQ x' v' a' w'' S'' m1 m2 m0 (m3.trans (hdef undef)) m4 m5)
    unfold wpList
    unfold aOps at h
    simp only [putK_eq] at h
    split at h
    · rename_i hgd
      have hw : Region.wanted o (yielded ops a.tmps) = true := by simp [Region.wanted, hgd]
      rw [if_pos hw]
      exact .inl (rec_ env he h)
    · rename_i j want hgd
      split at h
      · rename_i d hdj
        have hdj' : (ops[j]?).bind (·.dst) = some d := by simpa using hdj
        split at h
        · rename_i b hb
          have hbr := he.at_ d
          rw [hb] at hbr
          simp only [Rel] at hbr
          have hy : yielded ops a.tmps j = some b := by
            unfold yielded
            rw [hdj']
            simp only [Option.bind_some]
            rw [Array.getD_eq_getD_getElem?] at hbr
            cases e : a.tmps[d]? with
            | none => rw [e] at hbr; simp [undef] at hbr
            | some u => rw [e] at hbr; simp at hbr; subst hbr; rfl
          have hwanted : Region.wanted o (yielded ops a.tmps) = (b == want) := by
            simp only [Region.wanted, hgd, hy]
            cases b <;> cases want <;> rfl
          rw [hwanted]
          have he₁ : RelEnv w S a.tmps ((d, .bool b) :: env) n := he.know d (by simp only [Rel]; exact hbr)
          rw [split_iff] at h
          cases b <;> cases want
          · exact .inl (rec_ _ he₁ (h.2 rfl))
          · exact skip_ _ he₁ (h.2 rfl)
          · exact skip_ _ he₁ (h.1 rfl)
          · exact .inl (rec_ _ he₁ (h.1 rfl))
        · exact h.elim
      · exact h.elim

/-- How an exit of the abstract walk stands to one of the model's. -/
def ExRel (w : World) (S : St) : AExit → Exit → Prop
  | .normal, .normal => True
  | .exit i, .exit j => i = j
  | .ret, .ret => True
  | .panic x, .panic ch => ∃ v, ch = [{ v, recovered := false }] ∧ Rel w (rdOf S) x v
  | _, _ => False
def Post (C : Cx) (n : Nat) (ds : List Deferred) (w : World) (S : St) (Q : AExit → Env → St → Prop) (e : Exit) (a' : Act) (w' : World) : Prop :=
  ∃ ae env' S', ExRel w' S' ae e ∧ RelEnv w' S' a'.tmps env' n ∧ a'.defers = ds ∧ Good C w' S' ∧ Adv w S w' S' ∧ Q ae env' S'
theorem AV.le_sound {w : World} {rd} {x y : AV} {v : Value} (h : AV.le x y) (hx : Rel w rd x v) : Rel w rd y v := by
  unfold AV.le at h
  split at h
  · simp only [Rel]
  · obtain ⟨rfl, rfl⟩ := h
    simp only [Rel] at hx ⊢
    rcases hx with ⟨_, rfl, rfl⟩ | ⟨b, off, cap, h1, h2, h3, _, h5⟩
    · exact .inl ⟨rfl, rfl, rfl⟩
    · exact .inr ⟨b, off, cap, h1, h2, h3, trivial, h5⟩
  · obtain ⟨hsh, rfl, rfl⟩ := h
    simp only [Rel] at hx ⊢
    rcases hx with ⟨hh, _⟩ | ⟨b, off, cap, h1, h2, h3, _, h5⟩
    · rw [hsh] at hh; cases hh
    · exact .inr ⟨b, off, cap, h1, h2, h3, trivial, h5⟩
  · subst h
    simp only [Rel] at hx ⊢
    exact .inl ⟨rfl, trivial, hx⟩
  · subst h
    simp only [Rel] at hx ⊢
    exact .inl ⟨rfl, trivial, hx⟩
  · obtain ⟨hne, rfl, rfl, rfl⟩ := h
    simp only [Rel] at hx ⊢
    rcases hx with ⟨hh, _⟩ | ⟨b, off, cap, h1, h2, h3, h4, h5⟩
    · cases hh
    · exact .inr ⟨b, off, cap, h1, h2, h3, ⟨List.length_pos_iff.2 hne, h4⟩, h5⟩
  · subst h; exact hx
mutual
theorem AV.leS_sound {w : World} {S S' : St} (hi : Inv w S) (hle : St.le S' S) : ∀ (x y : AV) (v : Value), AV.leS S S' x y → Rel w (rdOf S) x v → Rel w (rdOf S') y v
  | .sl sh k es, y, v, h, hx => by
    have hx' := Rel.mono (Adv.shrink hle) _ _ hx
    unfold AV.leS at h
    split at h
    · obtain ⟨rfl, rfl⟩ := h
      simp only [Rel] at hx' ⊢
      rcases hx' with ⟨_, rfl, rfl⟩ | ⟨b, off, cap, h1, h2, h3, _, h5⟩
      · exact .inl ⟨rfl, rfl, rfl⟩
      · exact .inr ⟨b, off, cap, h1, h2, h3, trivial, h5⟩
    · obtain ⟨hsh, rfl, rfl⟩ := h
      simp only [Rel] at hx' ⊢
      rcases hx' with ⟨hh, _⟩ | ⟨b, off, cap, h1, h2, h3, _, h5⟩
      · rw [hsh] at hh; cases hh
      · exact .inr ⟨b, off, cap, h1, h2, h3, trivial, h5⟩
    · simp only [Rel]
    · subst h; exact hx'
  | .nils, y, v, h, hx => by
    unfold AV.leS at h
    split at h
    · subst h
      simp only [Rel] at hx ⊢
      exact .inl ⟨rfl, trivial, hx⟩
    · simp only [Rel]
    · subst h; simpa only [Rel] using hx
  | .ref b off, y, v, h, hx => by
    unfold AV.leS at h
    split at h
    · obtain ⟨hn, e, cells, hS, rfl⟩ := h
      simp only [Rel] at hx ⊢
      refine ⟨b, off, hx, ?_⟩
      obtain ⟨cs, h1, h2, h3, h4⟩ := obj_cells hi hS
      have hall := RelAt.of_cells (b := b) (off := 0) (RelL.mono (Adv.shrink hle) _ _ h2) h4 h3 (fun i hi' => by simp only [rdOf, hn])
      simpa using RelAt.drop hall off
    · simp only [Rel]
    · subst h; simpa only [Rel] using hx
  | .ifc t x, y, v, h, hx => by
    unfold AV.leS at h
    split at h
    · obtain ⟨rfl, h⟩ := h
      simp only [Rel] at hx ⊢
      obtain ⟨u, rfl, hu⟩ := hx
      exact ⟨u, rfl, AV.leS_sound hi hle x _ u h hu⟩
    · simp only [Rel]
    · exact h.elim
  | .tu xs, y, v, h, hx => by
    unfold AV.leS at h
    split at h
    · simp only [Rel] at hx ⊢
      obtain ⟨cs, rfl, hu⟩ := hx
      exact ⟨cs, rfl, AV.leSL_sound hi hle xs _ _ h hu⟩
    · simp only [Rel]
    · exact h.elim
  | .ag xs, y, v, h, hx => by
    unfold AV.leS at h
    split at h
    · simp only [Rel] at hx ⊢
      obtain ⟨cs, rfl, hu, h1⟩ := hx
      exact ⟨cs, rfl, AV.leSL_sound hi hle xs _ _ h hu, h1⟩
    · simp only [Rel]
    · exact h.elim
  | .int k n, y, v, h, hx => by
    have hx' := Rel.mono (Adv.shrink hle) _ _ hx
    unfold AV.leS at h; split at h; (· simp only [Rel]); subst h; exact hx'
  | .bool k, y, v, h, hx => by
    have hx' := Rel.mono (Adv.shrink hle) _ _ hx
    unfold AV.leS at h; split at h; (· simp only [Rel]); subst h; exact hx'
  | .str k, y, v, h, hx => by
    have hx' := Rel.mono (Adv.shrink hle) _ _ hx
    unfold AV.leS at h; split at h; (· simp only [Rel]); subst h; exact hx'
  | .nilp, y, v, h, hx => by
    have hx' := Rel.mono (Adv.shrink hle) _ _ hx
    unfold AV.leS at h; split at h; (· simp only [Rel]); subst h; exact hx'
  | .imm xs, y, v, h, hx => by
    have hx' := Rel.mono (Adv.shrink hle) _ _ hx
    unfold AV.leS at h; split at h; (· simp only [Rel]); subst h; exact hx'
  | .arr _ _ _ _, y, v, h, hx => by
    have hx' := Rel.mono (Adv.shrink hle) _ _ hx
    unfold AV.leS at h; split at h; (· simp only [Rel]); subst h; exact hx'
  | .nilf, y, v, h, hx => by
    have hx' := Rel.mono (Adv.shrink hle) _ _ hx
    unfold AV.leS at h; split at h; (· simp only [Rel]); subst h; exact hx'
  | .fn _ _ _, y, v, h, hx => by
    have hx' := Rel.mono (Adv.shrink hle) _ _ hx
    unfold AV.leS at h; split at h; (· simp only [Rel]); subst h; exact hx'
  | .nili, y, v, h, hx => by
    have hx' := Rel.mono (Adv.shrink hle) _ _ hx
    unfold AV.leS at h; split at h; (· simp only [Rel]); subst h; exact hx'
  | .nilm, y, v, h, hx => by
    have hx' := Rel.mono (Adv.shrink hle) _ _ hx
    unfold AV.leS at h; split at h; (· simp only [Rel]); subst h; exact hx'
  | .mp _, y, v, h, hx => by
    have hx' := Rel.mono (Adv.shrink hle) _ _ hx
    unfold AV.leS at h; split at h; (· simp only [Rel]); subst h; exact hx'
  | .raw _, y, v, h, hx => by
    have hx' := Rel.mono (Adv.shrink hle) _ _ hx
    unfold AV.leS at h; split at h; (· simp only [Rel]); subst h; exact hx'
  | .top, y, v, h, hx => by
    have hx' := Rel.mono (Adv.shrink hle) _ _ hx
    unfold AV.leS at h; split at h; (· simp only [Rel]); subst h; exact hx'
theorem AV.leSL_sound {w : World} {S S' : St} (hi : Inv w S) (hle : St.le S' S) : ∀ (xs ys : List AV) (vs : List Value), AV.leSL S S' xs ys → RelL w (rdOf S) xs vs → RelL w (rdOf S') ys vs
  | [], ys, vs, h, hx => by
    simp only [AV.leSL] at h; subst h
    simpa only [RelL] using hx
  | x :: xs, ys, vs, h, hx => by
    unfold AV.leSL at h
    split at h
    · exact h.elim
    · simp only [RelL] at hx ⊢
      obtain ⟨u, us, rfl, h1, h2⟩ := hx
      exact ⟨u, us, rfl, AV.leS_sound hi hle x _ u h.1 h1, AV.leSL_sound hi hle xs _ us h.2 h2⟩
end
/-! ### Less said -/
theorem leL_sound {w : World} {rd} : ∀ {xs ys : List AV} {vs : List Value}, leL xs ys → RelL w rd xs vs → RelL w rd ys vs
  | [], [], vs, _, h => h
  | x :: xs, y :: ys, vs, hl, h => by
    simp only [RelL] at h ⊢
    obtain ⟨u, us, rfl, h1, h2⟩ := h
    exact ⟨u, us, rfl, AV.le_sound hl.1 h1, leL_sound hl.2 h2⟩
  | [], _ :: _, vs, hl, h => hl.elim
  | _ :: _, [], vs, hl, h => hl.elim
theorem St.leW_upd {S : St} {b : Nat} {e : TypeId} {cs cs' : List AV} (h : S b = some (.obj e cs)) (hl : leL cs cs') : St.leW (S.upd b (.obj e cs')) S := fun x => by
  by_cases hx : x = b
  · subst hx; exact .inr ⟨e, cs, cs', h, St.upd_same _ _ _, hl⟩
  · exact .inl (St.upd_ne _ _ _ _ hx)
theorem St.leW_rd {S₀ S : St} (h : St.leW S₀ S) : rdOf S₀ = rdOf S := by
  funext b off
  rcases h b with h | ⟨e, cs, cs', h1, h2, _⟩
  · simp only [rdOf, h]
  · simp only [rdOf, h1, h2]
theorem St.leW_none {S₀ S : St} (h : St.leW S₀ S) {b : Nat} (hb : S b = none) : S₀ b = none := by
  rcases h b with h | ⟨e, cs, cs', h1, h2, _⟩
  · rw [h]; exact hb
  · rw [h1] at hb; cases hb
theorem Good.weakS {w : World} {S₀ S : St} (hg : Good C w S) (h : St.leW S₀ S) : Good C w S₀ := by
  refine ⟨fun b o ho => ?_, fun g xs hx => ?_⟩
  · rw [St.leW_rd h]
    rcases h b with hb | ⟨e, cs, cs', h1, h2, hl⟩
    · exact hg.1 b o (by rw [← hb]; exact ho)
    · rw [h2] at ho
      cases ho
      obtain ⟨vs, k1, k2, k3⟩ := hg.1 b _ h1
      exact ⟨vs, k1, leL_sound hl k2, k3⟩
  · obtain ⟨k1, k2, k3, k4⟩ := hg.2 g xs hx
    exact ⟨St.leW_none h k1, k2, by rw [St.leW_rd h]; exact k3, k4⟩
theorem Adv.weakS {w w' : World} {S₀ S S' : St} (h : St.leW S₀ S) (ha : Adv w S₀ w' S') : Adv w S w' S' :=
  ⟨ha.os, ha.tape, ha.output, ha.size, fun b hb hn => ha.old b hb (St.leW_none h hn), fun b off hb hr => ha.stay b off hb (by rw [St.leW_rd h]; exact hr), ha.shape⟩
theorem St.leW_refl (S : St) : St.leW S S := fun _ => .inl rfl
theorem RelEnv.weakS {w : World} {S₀ S : St} {tmps : Array Value} {env : Env} {n : Nat} (he : RelEnv w S tmps env n) (h : St.leW S₀ S) : RelEnv w S₀ tmps env n :=
  ⟨he.size, fun t => by rw [St.leW_rd h]; exact he.at_ t⟩
theorem Env.le_sound {w : World} {S : St} {tmps : Array Value} {n : Nat} {env : Env} (he : RelEnv w S tmps env n) : ∀ {env' : Env}, Env.le env env' → RelEnv w S tmps env' n
  | [], _ => ⟨he.size, fun t => by simp only [look, Rel]⟩
  | (t, x) :: r, h => (Env.le_sound he h.2).know t (AV.le_sound h.1 (he.at_ t))
theorem awp_sound (hT : TyOk P C) (hm : P.follows .mixedOrders = true) {n : Nat} : ∀ (c : Code), dstOk n c = true → ∀ {a : Act} {w : World} {S : St} {env : Env}, Good C w S → RelEnv w S a.tmps env n → ∀ {Q : AExit → Env → St → Prop}, awp P C c env S Q →
    c.wp P (Post C n a.defers w S Q) a w
  | .skip, hd, a, w, S, env, hg, he, Q, h => wp_skip ⟨.normal, env, S, trivial, he, rfl, hg, Adv.refl w S, h⟩
  | .label l, hd, a, w, S, env, hg, he, Q, h => wp_label ⟨.normal, env, S, trivial, he, rfl, hg, Adv.refl w S, h⟩
  | .ret, hd, a, w, S, env, hg, he, Q, h => wp_ret ⟨.ret, env, S, trivial, he, rfl, hg, Adv.refl w S, h⟩
  | .exit i, hd, a, w, S, env, hg, he, Q, h => wp_exit ⟨.exit i, env, S, rfl, he, rfl, hg, Adv.refl w S, h⟩
  | .seq x y, hd, a, w, S, env, hg, he, Q, h => by
    simp only [dstOk, Bool.and_eq_true] at hd
    refine wp_seq (wp_mono (awp_sound hT hm x hd.1 hg he h) ?_)
    rintro e a' w' ⟨ae, env', S', h1, h2, h3, h4, h5, h6⟩
    cases ae with
    | normal =>
      cases e <;> simp only [ExRel] at h1
      refine wp_mono (awp_sound hT hm y hd.2 h4 h2 h6) ?_
      rintro e a'' w'' ⟨ae, env'', S'', k1, k2, k3, k4, k5, k6⟩
      exact ⟨ae, env'', S'', k1, k2, k3.trans h3, k4, h5.trans k5, k6⟩
    | exit i => cases e <;> simp only [ExRel] at h1; exact ⟨.exit i, env', S', h1, h2, h3, h4, h5, h6⟩
    | ret => cases e <;> simp only [ExRel] at h1; exact ⟨.ret, env', S', trivial, h2, h3, h4, h5, h6⟩
    | panic x => cases e <;> simp only [ExRel] at h1; exact ⟨.panic x, env', S', h1, h2, h3, h4, h5, h6⟩
  | .region id ops draw, hd, a, w, S, env, hg, he, Q, h => by
    cases draw with
    | true =>
      obtain ⟨qc, pl, M, hok, hpl, hM⟩ := h
      refine draw_sound hT hm (fun o ho d hod => ?_) hg he hok hpl (fun env' a' w' S' k1 k2 k3 k4 k5 => ?_) (fun x v a' w' S' k1 k2 k0 k3 k4 k5 => ⟨.panic x, [], S', ⟨v, rfl, k2⟩, ⟨k0, fun t => by simp only [look, Rel]⟩, k3, k4, k5, k1⟩)
      · simp only [dstOk, List.all_eq_true] at hd
        have := hd o (by simpa using ho)
        simp only [hod] at this
        exact Nat.le_of_ble_eq_true this
      · obtain ⟨F, f1, f2⟩ := hM env' S' k1
        rcases f1 with rfl | f1
        · exact ⟨.normal, F, S', trivial, k2, k3, k4, k5, f2⟩
        · exact ⟨.normal, F, S', trivial, Env.le_sound k2 f1, k3, k4, k5, f2⟩
    | false =>
      refine wp_region_list (aOps_sound hT ops ops.toList (fun o ho d hod => ?_) hg he h (fun env' a' w' S' k1 k2 k3 k4 k5 => ⟨.normal, env', S', trivial, k2, k3, k4, k5, k1⟩) (fun x v a' w' S' k1 k2 k0 k3 k4 k5 => ⟨.panic x, [], S', ⟨v, rfl, k2⟩, ⟨k0, fun t => by simp only [look, Rel]⟩, k3, k4, k5, k1⟩))
      · simp only [dstOk, List.all_eq_true] at hd
        have := hd o ho
        simp only [hod] at this
        exact Nat.le_of_ble_eq_true this
  | .cond (.tmp t) x y, hd, a, w, S, env, hg, he, Q, h => by
    simp only [dstOk, Bool.and_eq_true] at hd
    unfold awp at h
    split at h
    · rename_i b hb
      have hbr := he.at_ t
      rw [hb] at hbr
      simp only [Rel] at hbr
      rw [split_iff] at h
      have hev : a.eval (.tmp t) = .bool b := hbr
      refine wp_cond_split hev (fun hb' => ?_) (fun hb' => ?_)
      · subst hb'
        exact awp_sound hT hm x hd.1 hg (he.know t (by simp only [Rel]; exact hbr)) (h.1 rfl)
      · subst hb'
        exact awp_sound hT hm y hd.2 hg (he.know t (by simp only [Rel]; exact hbr)) (h.2 rfl)
    · exact h.elim
  | .cond (.const v) x y, hd, a, w, S, env, hg, he, Q, h => h.elim
  | .cond (.global v) x y, hd, a, w, S, env, hg, he, Q, h => h.elim
  | .cond (.func v) x y, hd, a, w, S, env, hg, he, Q, h => h.elim
  | .block id c, hd, a, w, S, env, hg, he, Q, h => by
    refine wp_block (wp_mono (awp_sound hT hm c hd hg he h) ?_)
    rintro e a' w' ⟨ae, env', S', h1, h2, h3, h4, h5, h6⟩
    cases ae with
    | normal => cases e <;> simp only [ExRel] at h1; exact ⟨.normal, env', S', trivial, h2, h3, h4, h5, h6⟩
    | exit i =>
      cases e <;> simp only [ExRel] at h1
      subst h1
      simp only [cond_eq_ite] at h6
      simp only [Exit.inBlock]
      by_cases hi : i = id
      · subst hi
        rw [if_pos rfl]
        rw [if_pos (Nat.beq_refl i)] at h6
        exact ⟨.normal, env', S', trivial, h2, h3, h4, h5, h6⟩
      · rw [if_neg hi]
        rw [if_neg (fun hh => hi (Nat.eq_of_beq_eq_true hh))] at h6
        exact ⟨.exit i, env', S', rfl, h2, h3, h4, h5, h6⟩
    | ret => cases e <;> simp only [ExRel] at h1; exact ⟨.ret, env', S', trivial, h2, h3, h4, h5, h6⟩
    | panic x => cases e <;> simp only [ExRel] at h1; exact ⟨.panic x, env', S', h1, h2, h3, h4, h5, h6⟩
  | .loop c, hd, a, w, S, env, hg, he, Q, h => by
    obtain ⟨L, ⟨i₀, hle, S₀, hW, hG⟩, hround⟩ := h
    have hadv0 : Adv w S w S₀ := Adv.weakS hW (Adv.refl w S₀)
    refine Go.wp_loop_ghost (fun m a' w' => ∃ i S', L.μ i = m ∧ L.G i S' ∧ RelEnv w' S' a'.tmps (L.F i) n ∧ a'.defers = a.defers ∧ Good C w' S' ∧ Adv w S w' S') (L.μ i₀) ⟨i₀, S₀, rfl, hG, Env.le_sound (he.weakS hW) hle, rfl, hg.weakS hW, hadv0⟩ ?_
    rintro m a' w' ⟨i, S', rfl, hG', he', hde, hg', hadv⟩
    refine wp_mono (awp_sound hT hm c hd hg' he' (hround i S' hG')) ?_
    rintro e a'' w'' ⟨ae, env', S'', h1, h2, h3, h4, h5, h6⟩
    cases ae with
    | normal =>
      cases e <;> simp only [ExRel] at h1
      obtain ⟨j, hle', ⟨S₃, hW', hG''⟩, hlt⟩ := h6
      exact ⟨L.μ j, hlt, j, S₃, rfl, hG'', Env.le_sound (h2.weakS hW') hle', h3.trans hde, h4.weakS hW', hadv.trans (h5.trans (Adv.weakS hW' (Adv.refl _ _)))⟩
    | exit i => cases e <;> simp only [ExRel] at h1; exact ⟨.exit i, env', S'', h1, h2, h3.trans hde, h4, hadv.trans h5, h6⟩
    | ret => cases e <;> simp only [ExRel] at h1; exact ⟨.ret, env', S'', trivial, h2, h3.trans hde, h4, hadv.trans h5, h6⟩
    | panic x => cases e <;> simp only [ExRel] at h1; exact ⟨.panic x, env', S'', h1, h2, h3.trans hde, h4, hadv.trans h5, h6⟩
  | .scope c, hd, a, w, S, env, hg, he, Q, h => h.elim
  | .rangeFunc .., hd, a, w, S, env, hg, he, Q, h => h.elim
  | .goto _, hd, a, w, S, env, hg, he, Q, h => h.elim
  | .refuse _, hd, a, w, S, env, hg, he, Q, h => h.elim

/-! ### Functions -/
def resF (tmps : Array Value) : ResultVar → Sem Value
  | .tmp t => pure (tmps.getD t undef)
  | .cell a t => do loadVar t (← asAddr (tmps.getD a undef))
theorem aLoad_ptr {w : World} {rd} {S : St} {t : TypeId} {p : AV} {x : Value} (hx : Rel w rd p x) {K : AV → Prop} (h : aLoad C t p S K) : ∃ ad, x = .pointer (some ad) := by
  unfold aLoad at h
  split at h
  · simp only [Rel] at hx; obtain ⟨b, off, rfl, _⟩ := hx; exact ⟨_, rfl⟩
  · simp only [Rel] at hx; exact ⟨_, hx⟩
  · exact h.elim
theorem aRes_run (hT : TyOk P C) {w : World} {S : St} {tmps : Array Value} {env : Env} {n : Nat} (hg : Good C w S) (he : RelEnv w S tmps env n) : ∀ (rs : List ResultVar) {K : List AV → Prop}, aRes C env S rs K →
    ∃ xs vs, K xs ∧ (rs.mapM (resF tmps)).run P w = .ok vs w ∧ RelL w (rdOf S) xs vs ∧ vs.length = rs.length
  | [], K, h => ⟨[], [], h, rfl, by simp [RelL], rfl⟩
  | .tmp t :: r, K, h => by
    simp only [aRes, force_eq] at h
    obtain ⟨xs, vs, h1, h2, h3, h4⟩ := aRes_run hT hg he r h
    refine ⟨look t env :: xs, tmps.getD t undef :: vs, h1, ?_, ?_, by simp [h4]⟩
    · rw [List.mapM_cons]
      simp only [resF, Sem.run_bind, Sem.run_pure, Result.andThen_ok, h2]
    · simp only [RelL]
      exact ⟨_, vs, rfl, he.at_ t, h3⟩
  | .cell a t :: r, K, h => by
    simp only [aRes] at h
    obtain ⟨x, v, h1, h2, h3⟩ := aLoad_sound (P := P) hT hg.1 (he.at_ a) h
    obtain ⟨xs, vs, k1, k2, k3, k4⟩ := aRes_run hT hg he r h1
    refine ⟨x :: xs, v :: vs, k1, ?_, ?_, by simp [k4]⟩
    · rw [List.mapM_cons]
      obtain ⟨ad, had⟩ := aLoad_ptr (he.at_ a) h
      rw [had] at h3
      simp only [Instr.loadAt, Instr.sureAddr, Sem.run_bind, Sem.run_pure, Result.andThen_ok] at h3
      have h5 : (resF tmps (.cell a t)).run P w = .ok v w := by
        simp only [resF, had, asAddr, Sem.run_bind, Sem.run_pure, Result.andThen_ok, h3]
      simp only [Sem.run_bind, h5, Result.andThen_ok, k2, Sem.run_pure]
    · simp only [RelL]
      exact ⟨_, vs, rfl, h2, k3⟩
theorem results_sound (hT : TyOk P C) {w : World} {S : St} {tmps : Array Value} {env : Env} {n : Nat} (hg : Good C w S) (he : RelEnv w S tmps env n) {fn : Func} {K : AV → Prop} (h : aOut C fn.results.toList env S K) :
    ∃ x v, K x ∧ (results fn tmps).run P w = .ok v w ∧ Rel w (rdOf S) x v := by
  have hres : results fn tmps = (fn.results.mapM (resF tmps) >>= fun vs => pure (if h : vs.size = 1 then vs[0] else .tuple vs) : Sem Value) := by
    unfold results
    congr 1
  rw [hres, Array.mapM_eq_mapM_toList]
  unfold aOut at h
  split at h
  · rename_i r hr
    obtain ⟨xs, vs, h1, h2, h3, h4⟩ := aRes_run (P := P) hT hg he [r] h
    rw [hr]
    match vs, h4 with
    | [v], _ =>
      match xs, h3, h1 with
      | [x], h3, h1 =>
        unfold RelL at h3
        obtain ⟨u, us, hu, h5, _⟩ := h3
        simp only [List.cons.injEq] at hu
        obtain ⟨rfl, _⟩ := hu
        exact ⟨x, v, h1, by simp only [Sem.run_bind, Sem.run_map, h2, Result.andThen_ok, Sem.run_pure]; rfl, h5⟩
  · rename_i hne
    obtain ⟨xs, vs, h1, h2, h3, h4⟩ := aRes_run (P := P) hT hg he fn.results.toList h
    have hn1 : ¬ vs.toArray.size = 1 := by
      intro hh
      have hl : fn.results.toList.length = 1 := by rw [← h4]; simpa using hh
      match hr : fn.results.toList, hl with
      | [r], _ => exact hne r hr
    refine ⟨.tu xs, .tuple vs.toArray, h1, ?_, by simp only [Rel]; exact ⟨_, rfl, by simpa using h3⟩⟩
    simp only [Sem.run_bind, Sem.run_map, h2, Result.andThen_ok, Sem.run_pure]
    rw [dif_neg hn1]
theorem argEnv_sound {w : World} {S : St} : ∀ (i : Nat) (args : List AV) (vs : List Value), RelL w (rdOf S) args vs → ∀ (t : Nat), Rel w (rdOf S) (look t (argEnv i args)) ((vs[t - i]?).getD undef) ∨ look t (argEnv i args) = .top
  | i, [], vs, h, t => .inr rfl
  | i, x :: xs, vs, h, t => by
    simp only [RelL] at h
    obtain ⟨u, us, rfl, h1, h2⟩ := h
    simp only [argEnv, look_cons]
    by_cases e : i = t
    · subst e
      left
      simp only [if_true]
      simpa using h1
    · rw [if_neg e]
      rcases argEnv_sound (i + 1) xs us h2 t with h | h
      · by_cases hlt : t < i
        · right
          clear h h1 h2 e
          have : ∀ (ys : List AV) (j : Nat), t < j → look t (argEnv j ys) = .top := by
            intro ys
            induction ys with
            | nil => intro j _; rfl
            | cons y ys ih => intro j hj; simp only [argEnv, look_cons, if_neg (show ¬ j = t by omega)]; exact ih (j + 1) (by omega)
          exact this xs (i + 1) (by omega)
        · left
          rw [show t - i = (t - (i + 1)) + 1 from by omega]
          simpa using h
      · exact .inr h
/-- THE WALK OF A FUNCTION gives its contract. -/
theorem triple_of_awp (hT : TyOk P C) (hm : P.follows .mixedOrders = true) {f : FuncId} {fn : Func} {c : Code} (hf : P.funcs[f]? = some fn) (hb : fn.body = some c) (hname : (fn.name == "runtime.NumGoroutine") = false)
    {n : Nat} (hn : fn.ntmps = n) (hd : dstOk n c = true) {args : List AV} (hargs : args.length ≤ n) {rs : List ResultVar} (hrs : fn.results.toList = rs) {S : St} {Q : Out → St → Prop}
    (h : awp P C c (argEnv 0 args) S (aPost C rs Q)) : Triple P C f args S Q := by
  refine ⟨fun vs w => ?_, fun w vs hg hr => ?_⟩
  · have hno : ¬ fn.name = "runtime.NumGoroutine" := by simpa using hname
    simp [callFunc, hf, hno, hb]
  · have hvs : vs.size = args.length := by simpa using (RelL.length hr).symm
    have he : RelEnv w S (vs ++ Array.replicate (fn.ntmps - vs.size) undef) (argEnv 0 args) n := by
      refine ⟨by simp [hn, hvs]; omega, fun t => ?_⟩
      rcases argEnv_sound 0 args vs.toList hr t with h | h
      · by_cases ht : t < vs.size
        · have : (vs ++ Array.replicate (fn.ntmps - vs.size) undef).getD t undef = (vs.toList[t - 0]?).getD undef := by
            simp [Array.getD_eq_getD_getElem?, Array.getElem?_append_left ht]
          rw [this]; exact h
        · have htop : look t (argEnv 0 args) = .top := by
            have : ∀ (ys : List AV) (j : Nat), j + ys.length ≤ t → look t (argEnv j ys) = .top := by
              intro ys
              induction ys with
              | nil => intro j _; rfl
              | cons y ys ih => intro j hj; simp only [argEnv, look_cons, if_neg (show ¬ j = t by simp at hj; omega)]; exact ih (j + 1) (by simp at hj; omega)
            exact this args 0 (by omega)
          rw [htop]; simp only [Rel]
      · rw [h]; simp only [Rel]
    refine calls_of_wp hf hb (wp_mono (awp_sound hT hm c hd hg (a := ⟨_, []⟩) he h) ?_)
    rintro e a' w' ⟨ae, env', S', h1, h2, h3, h4, h5, h6⟩
    have fin : aOut C rs env' S' (fun x => ∃ y S'', Q (.ret y) S'' ∧ St.le S'' S' ∧ AV.leS S' S'' x y) → a'.defers = [] ∧ ∃ v, (results fn a'.tmps).run P w' = .ok v w' ∧ ∃ o S', OutRel w' S' o (.returned v) ∧ Good C w' S' ∧ Adv w S w' S' ∧ Q o S' := by
      intro hx
      obtain ⟨x, v, ⟨y, S'', hq, hle, hxy⟩, k1, k2⟩ := results_sound (P := P) hT h4 h2 (by rw [hrs]; exact hx)
      exact ⟨h3, v, k1, .ret y, S'', AV.leS_sound h4.1 hle x y v hxy k2, h4.shrink hle, h5.trans (Adv.shrink hle), hq⟩
    cases ae with
    | normal =>
      cases e <;> simp only [ExRel] at h1
      exact fin h6
    | exit i => exact h6.elim
    | ret =>
      cases e <;> simp only [ExRel] at h1
      exact fin h6
    | panic x =>
      cases e <;> simp only [ExRel] at h1
      obtain ⟨v, rfl, hv⟩ := h1
      simp only [aPost, force_eq] at h6
      obtain ⟨y, S'', hq, hle, hxy⟩ := h6
      exact ⟨h3, .pan y, S'', ⟨v, rfl, AV.leS_sound h4.1 hle x y v hxy hv⟩, h4.shrink hle, h5.trans (Adv.shrink hle), hq⟩
end
end Go.Proofs.YtikkoaoibomofaaGreatDoor.Aw

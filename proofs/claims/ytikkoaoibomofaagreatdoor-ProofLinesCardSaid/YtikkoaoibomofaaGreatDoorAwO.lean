/-
  A store that is laid over another one: what a function's own objects are, block by block. No condition.
-/
import Derived.Test.YtikkoaoibomofaaGreatDoorAwL
set_option linter.unusedVariables false
namespace Go.Proofs.YtikkoaoibomofaaGreatDoor.Aw
open Go Go.RowKit

def ov (S₀ : St) : List (Nat × Own) → St
  | [] => S₀
  | (b, o) :: r => (ov S₀ r).upd b o
structure FpOk (S₀ : St) (fp : List (Nat × Own)) : Prop where
  nd : (fp.map (·.1)).Nodup
  new : ∀ p ∈ fp, S₀ p.1 = none
theorem FpOk.nil (S₀ : St) : FpOk S₀ [] := ⟨by simp, by simp⟩
theorem ov_out {S₀ : St} : ∀ {fp : List (Nat × Own)} {b : Nat}, b ∉ fp.map (·.1) → ov S₀ fp b = S₀ b
  | [], b, h => rfl
  | (c, o) :: r, b, h => by
    simp only [List.map_cons, List.mem_cons, not_or] at h
    simp only [ov, St.upd_ne _ _ _ _ h.1]
    exact ov_out h.2
theorem ov_get {S₀ : St} : ∀ {fp : List (Nat × Own)}, (fp.map (·.1)).Nodup → ∀ {b o}, (b, o) ∈ fp → ov S₀ fp b = some o
  | [], _, b, o, h => by cases h
  | (c, p) :: r, hn, b, o, h => by
    simp only [List.map_cons, List.nodup_cons] at hn
    rcases List.mem_cons.1 h with h | h
    · cases h; simp only [ov, St.upd_same]
    · have : b ≠ c := fun e => hn.1 (by rw [← e]; exact List.mem_map.2 ⟨_, h, rfl⟩)
      simp only [ov, St.upd_ne _ _ _ _ this]
      exact ov_get hn.2 h
theorem ov_none {S₀ : St} {fp : List (Nat × Own)} (hn : (fp.map (·.1)).Nodup) {b : Nat} (h : ov S₀ fp b = none) : S₀ b = none ∧ b ∉ fp.map (·.1) := by
  by_cases hb : b ∈ fp.map (·.1)
  · obtain ⟨⟨c, o⟩, h1, rfl⟩ := List.mem_map.1 hb
    rw [ov_get hn h1] at h; cases h
  · exact ⟨(ov_out (S₀ := S₀) hb).symm.trans h, hb⟩
/-- A store over the same blocks is the same store. -/
theorem ov_ext {S₀ : St} {fp fp' : List (Nat × Own)} (h1 : (fp.map (·.1)).Nodup) (h2 : (fp'.map (·.1)).Nodup) (h : ∀ p, p ∈ fp ↔ p ∈ fp') : ov S₀ fp = ov S₀ fp' := by
  funext b
  by_cases hb : b ∈ fp.map (·.1)
  · obtain ⟨⟨c, o⟩, k1, rfl⟩ := List.mem_map.1 hb
    rw [ov_get h1 k1, ov_get h2 ((h _).1 k1)]
  · have hb' : b ∉ fp'.map (·.1) := fun hh => by
      obtain ⟨p, k1, rfl⟩ := List.mem_map.1 hh
      exact hb (List.mem_map.2 ⟨p, (h _).2 k1, rfl⟩)
    rw [ov_out hb, ov_out hb']
theorem ov_upd_mid {S₀ : St} {b : Nat} {o o' : Own} : ∀ {pre post : List (Nat × Own)}, ((pre ++ (b, o) :: post).map (·.1)).Nodup → (ov S₀ (pre ++ (b, o) :: post)).upd b o' = ov S₀ (pre ++ (b, o') :: post)
  | [], post, h => by simp only [List.nil_append, ov, St.upd_upd]
  | (c, p) :: pre, post, h => by
    simp only [List.cons_append, List.map_cons, List.nodup_cons] at h
    have hbc : c ≠ b := fun e => h.1 (by rw [e]; simp)
    simp only [List.cons_append, ov]
    rw [St.upd_comm hbc, ov_upd_mid h.2]
theorem ov_new_mid {S₀ : St} {b : Nat} {o : Own} : ∀ {pre post : List (Nat × Own)}, b ∉ (pre ++ post).map (·.1) → (ov S₀ (pre ++ post)).upd b o = ov S₀ (pre ++ (b, o) :: post)
  | [], post, h => rfl
  | (c, p) :: pre, post, h => by
    simp only [List.cons_append, List.map_cons, List.mem_cons, not_or] at h
    simp only [List.cons_append, ov]
    rw [St.upd_comm (Ne.symm h.1), ov_new_mid h.2]
theorem ov_del_mid {S₀ : St} {b : Nat} {o : Own} (hb : S₀ b = none) : ∀ {pre post : List (Nat × Own)}, ((pre ++ (b, o) :: post).map (·.1)).Nodup → (ov S₀ (pre ++ (b, o) :: post)).del b = ov S₀ (pre ++ post)
  | [], post, h => by
    simp only [List.nil_append, List.map_cons, List.nodup_cons] at h
    simp only [List.nil_append, ov]
    exact St.del_upd (by rw [ov_out h.1]; exact hb)
  | (c, p) :: pre, post, h => by
    simp only [List.cons_append, List.map_cons, List.nodup_cons] at h
    have hbc : c ≠ b := fun e => h.1 (by rw [e]; simp)
    simp only [List.cons_append, ov]
    rw [← ov_del_mid hb h.2]
    funext x
    by_cases hx : x = b
    · subst hx; rw [St.del_same, St.upd_ne _ _ _ _ (Ne.symm hbc), St.del_same]
    · rw [St.del_ne _ _ _ hx]
      by_cases hc : x = c
      · subst hc; rw [St.upd_same, St.upd_same]
      · rw [St.upd_ne _ _ _ _ hc, St.upd_ne _ _ _ _ hc, St.del_ne _ _ _ hx]
theorem FpOk.set {S₀ : St} {b : Nat} {o : Own} {pre post : List (Nat × Own)} (h : FpOk S₀ (pre ++ (b, o) :: post)) (o' : Own) : FpOk S₀ (pre ++ (b, o') :: post) := by
  refine ⟨by simpa using h.nd, fun p hp => ?_⟩
  simp only [List.mem_append, List.mem_cons] at hp
  rcases hp with hp | rfl | hp
  · exact h.new p (by simp [hp])
  · exact h.new (b, o) (by simp)
  · exact h.new p (by simp [hp])
theorem FpOk.add {S₀ : St} {b : Nat} {pre post : List (Nat × Own)} (h : FpOk S₀ (pre ++ post)) (hb : ov S₀ (pre ++ post) b = none) (o : Own) : FpOk S₀ (pre ++ (b, o) :: post) := by
  obtain ⟨h1, h2⟩ := ov_none h.nd hb
  refine ⟨?_, fun p hp => ?_⟩
  · have hn := h.nd
    simp only [List.map_append, List.map_cons] at hn h2 ⊢
    rw [List.nodup_append] at hn ⊢
    obtain ⟨n1, n2, n3⟩ := hn
    simp only [List.mem_append, not_or] at h2
    refine ⟨n1, List.nodup_cons.2 ⟨h2.2, n2⟩, fun x hx y hy => ?_⟩
    rcases List.mem_cons.1 hy with rfl | hy
    · exact fun e => h2.1 (by rw [← e]; exact hx)
    · exact n3 x hx y hy
  · simp only [List.mem_append, List.mem_cons] at hp
    rcases hp with hp | rfl | hp
    · exact h.new p (by simp [hp])
    · exact h1
    · exact h.new p (by simp [hp])
theorem FpOk.sub {S₀ : St} {fp fp' : List (Nat × Own)} (h : FpOk S₀ fp) (hs : List.Sublist fp' fp) : FpOk S₀ fp' :=
  ⟨List.Nodup.sublist (hs.map _) h.nd, fun p hp => h.new p (hs.subset hp)⟩
theorem FpOk.drop {S₀ : St} {b : Nat} {o : Own} {pre post : List (Nat × Own)} (h : FpOk S₀ (pre ++ (b, o) :: post)) : FpOk S₀ (pre ++ post) :=
  h.sub ((List.Sublist.refl pre).append (List.sublist_cons_self _ _))
theorem FpOk.perm {S₀ : St} {fp fp' : List (Nat × Own)} (h : FpOk S₀ fp) (hp : fp.Perm fp') : FpOk S₀ fp' ∧ ov S₀ fp' = ov S₀ fp := by
  have h' : FpOk S₀ fp' := ⟨(hp.map _).nodup_iff.1 h.nd, fun p hh => h.new p (hp.mem_iff.2 hh)⟩
  exact ⟨h', ov_ext h'.nd h.nd fun p => hp.mem_iff.symm⟩
theorem ov_le (S₀ : St) {fp : List (Nat × Own)} (h : FpOk S₀ fp) : St.le S₀ (ov S₀ fp) := fun b o hb => by
  have : b ∉ fp.map (·.1) := fun hh => by
    obtain ⟨p, h1, rfl⟩ := List.mem_map.1 hh
    rw [h.new p h1] at hb; cases hb
  rw [ov_out this]; exact hb
theorem ov_sub_le {S₀ : St} {fp fp' : List (Nat × Own)} (h : FpOk S₀ fp) (hs : ∀ p ∈ fp', p ∈ fp) (hn : (fp'.map (·.1)).Nodup) : St.le (ov S₀ fp') (ov S₀ fp) := fun b o hb => by
  by_cases hm : b ∈ fp'.map (·.1)
  · obtain ⟨⟨c, p⟩, h1, rfl⟩ := List.mem_map.1 hm
    rw [ov_get hn h1] at hb
    cases hb
    exact ov_get h.nd (hs _ h1)
  · rw [ov_out hm] at hb
    exact ov_le S₀ h b o hb
theorem St.le_self {S : St} {b : Nat} {o : Own} (h : S b = some o) : St.le S (S.upd b o) := by rw [St.upd_self h]; exact St.le_refl _
/-- A list that is grown (its elements of one cell), at its place among the others. -/
structure AccL where
  b : Nat
  es : List (List AV)
def AccL.av (a : AccL) : AV := .sl (.acc a.b) 1 a.es
def AccL.fp (a : AccL) (e : TypeId) : List (Nat × Own) := match a.es with | [] => [] | r :: rs => [(a.b, .tip e 1 (r :: rs).length)]
def AccL.empty : AccL := ⟨0, []⟩
def AccL.push (a : AccL) (b : Nat) (x : AV) : AccL := ⟨b, a.es ++ [[x]]⟩
theorem AccL.tip {S₀ : St} {pre post : List (Nat × Own)} {a : AccL} {e : TypeId} (h : FpOk S₀ (pre ++ (a.fp e ++ post))) (hn : a.es ≠ []) : ov S₀ (pre ++ (a.fp e ++ post)) a.b = some (.tip e 1 a.es.length) := by
  refine ov_get h.nd ?_
  obtain ⟨b, es⟩ := a
  cases es with
  | nil => exact absurd rfl hn
  | cons r rs => simp [AccL.fp]
theorem AccL.pushed {S₀ : St} {pre post : List (Nat × Own)} {a : AccL} {e : TypeId} (h : FpOk S₀ (pre ++ (a.fp e ++ post))) {S₁ : St} (h1 : a.es = [] → S₁ = ov S₀ (pre ++ (a.fp e ++ post))) (h2 : a.es ≠ [] → S₁ = (ov S₀ (pre ++ (a.fp e ++ post))).del a.b) {b' : Nat} (hb : S₁ b' = none)
    (x : AV) {n : Nat} (hn : n = a.es.length + 1) :
    S₁.upd b' (.tip e 1 n) = ov S₀ (pre ++ ((a.push b' x).fp e ++ post)) ∧ FpOk S₀ (pre ++ ((a.push b' x).fp e ++ post)) := by
  subst hn
  obtain ⟨b, es⟩ := a
  have hfp : (AccL.push ⟨b, es⟩ b' x).fp e = [(b', .tip e 1 (es.length + 1))] := by
    unfold AccL.fp AccL.push
    cases es with
    | nil => simp
    | cons x xs => simp
  simp only [hfp, List.cons_append, List.nil_append]
  cases es with
  | nil =>
    have hS := h1 rfl
    simp only [AccL.fp, List.nil_append] at hS h
    subst hS
    exact ⟨ov_new_mid (ov_none h.nd hb).2, h.add hb _⟩
  | cons y ys =>
    have hS := h2 (by simp)
    simp only [AccL.fp, List.cons_append, List.nil_append] at hS h
    rw [ov_del_mid (h.new (b, .tip e 1 (y :: ys).length) (by simp)) h.nd] at hS
    subst hS
    exact ⟨ov_new_mid (ov_none h.drop.nd hb).2, h.drop.add hb _⟩
theorem aPart_cell {C : Cx} {t : TypeId} {cells : List AV} {off : Nat} {K : AV → Prop} {x : AV} (ha : (C.T t).agg = false) (hx : cells[off]? = some x) (h : K x) : aPart C t cells off K := by
  unfold aPart
  rw [ha]
  dsimp only
  have hd : cells.drop off = x :: cells.drop (off + 1) := by
    have hlt : off < cells.length := by
      rcases Nat.lt_or_ge off cells.length with h | h
      · exact h
      · rw [List.getElem?_eq_none h] at hx; cases hx
    rw [List.drop_eq_getElem_cons hlt]
    rw [List.getElem?_eq_getElem hlt] at hx
    cases hx; rfl
  rw [hd]
  simpa only [force_eq] using h
/-! ### Less said, cell by cell -/
theorem AV.le_refl : ∀ x, AV.le x x
  | .sl sh k es => by cases sh <;> simp [AV.le, Sh.mayNil]
  | .int _ _ => rfl
  | .bool _ => rfl
  | .str _ => rfl
  | .nilp => rfl
  | .ref _ _ => rfl
  | .imm _ => rfl
  | .nils => rfl
  | .arr _ _ _ _ => rfl
  | .ag _ => rfl
  | .tu _ => rfl
  | .nilf => rfl
  | .fn _ _ _ => rfl
  | .nili => rfl
  | .ifc _ _ => rfl
  | .nilm => rfl
  | .mp _ => rfl
  | .raw _ => rfl
  | .top => by simp [AV.le]
theorem leL_refl : ∀ xs, leL xs xs
  | [] => trivial
  | x :: xs => ⟨AV.le_refl x, leL_refl xs⟩
theorem AccL.nils_le : AV.le .nils AccL.empty.av := rfl
theorem Triple.lessW {P : Program} {C : Cx} {f : FuncId} {args : List AV} {S : St} {Q Q' : Out → St → Prop} (h : Triple P C f args S Q) (hq : ∀ o S', Q o S' → ∃ S'', Q' o S'' ∧ St.leW S'' S') : Triple P C f args S Q' :=
  ⟨h.enter, fun w vs hg hr => (h.out w vs hg hr).mono fun e w' ⟨o, S', h1, h2, h3, h4⟩ => by
    obtain ⟨S'', k1, k2⟩ := hq o S' h4
    refine ⟨o, S'', ?_, h2.weakS k2, h3.trans (Adv.weakS k2 (Adv.refl _ _)), k1⟩
    cases o <;> cases e <;> first | exact h1.elim | skip
    · show Rel w' (rdOf S'') _ _
      rw [St.leW_rd k2]; exact h1
    · obtain ⟨v, rfl, hv⟩ := h1
      exact ⟨v, rfl, by rw [St.leW_rd k2]; exact hv⟩⟩
end Go.Proofs.YtikkoaoibomofaaGreatDoor.Aw

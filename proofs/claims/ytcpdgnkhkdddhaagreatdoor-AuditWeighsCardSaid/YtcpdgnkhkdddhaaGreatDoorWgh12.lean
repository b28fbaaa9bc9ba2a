/-
  Package proof's reader: its state; number, lit, ids, lits.
  Package proof's reader: ids, lits.
  Package proof's reader: row.
  A store that is laid over another one: what a function's own objects are, block by block. No condition.
  Package proof's reader: the lines but pol and conclusion.
  Package hallmarkref8: Words; the reader's small functions.
  A long region is walked in parts.
  Package hallmarkref8: the reader's small functions.
  Package hallmarkref8: the reader: one, number, lit, rest, words.
  Package proof's reader: count, soli, solx, rup, same, del, id.
-/
import Derived.Test.YtcpdgnkhkdddhaaGreatDoorWgh11
import Derived.Test.YtcpdgnkhkdddhaaGreatDoorWgh6
set_option maxRecDepth 100000
set_option linter.unusedVariables false
set_option linter.unusedSimpArgs false
namespace Go.Proofs.YtcpdgnkhkdddhaaGreatDoor.Aw
open Go Go.RowKit
variable {G : Nat → Option (List AV)}

/-- A step. -/
structure StepV where
  kind : Int
  num : ByteArray
  ops : List (Int × ByteArray × Int)
  pieces : List (ByteArray × Int)
  bound : ByteArray
  lits : List Int
  ids : List ByteArray
  n6 : Int
  s7 : ByteArray
  s8 : ByteArray
def rowsO (l : List (Int × ByteArray × Int)) : List (List AV) := l.map fun o => [.int .i64 o.1, .str o.2.1, .int .i64 o.2.2]
def rowsP (l : List (ByteArray × Int)) : List (List AV) := l.map fun o => [.str o.1, .int .i64 o.2]
def rowsI (l : List Int) : List (List AV) := l.map fun o => [.int .i64 o]
@[simp] theorem rowsO_len (l) : (rowsO l).length = l.length := by simp [rowsO]
@[simp] theorem rowsP_len (l) : (rowsP l).length = l.length := by simp [rowsP]
@[simp] theorem rowsI_len (l) : (rowsI l).length = l.length := by simp [rowsI]
structure Tips where
  b3 : Nat
  b4 : Nat
  b6 : Nat
  b7 : Nat
def stepC (v : StepV) (t : Tips) : List AV := [.int .i64 v.kind, .str v.num, .sl (.acc t.b3) 3 (rowsO v.ops), .sl (.acc t.b4) 2 (rowsP v.pieces), .str v.bound, .sl (.acc t.b6) 1 (rowsI v.lits), .sl (.acc t.b7) 1 (rowsS v.ids), .int .i64 v.n6, .str v.s7, .str v.s8]
/-- A list that grows: its block. -/
def TipOk (S₀ S : St) (b : Nat) (e : TypeId) (k n : Nat) : Prop := 0 < n → S b = some (.tip e k n) ∧ S₀ b = none
structure RdrAt (S₀ S : St) (rb : Nat) (ws : List ByteArray) (v : StepV) (t : Tips) : Prop where
  le : St.le S₀ S
  new : S₀ rb = none
  at_ : S rb = some (rdr ws (stepC v t))
  t3 : TipOk S₀ S t.b3 123 3 v.ops.length
  t4 : TipOk S₀ S t.b4 136 2 v.pieces.length
  t6 : TipOk S₀ S t.b6 3 1 v.lits.length
  t7 : TipOk S₀ S t.b7 9 1 v.ids.length
def Rdr (S₀ S : St) (rb : Nat) (ws : List ByteArray) (v : StepV) : Prop := ∃ t, RdrAt S₀ S rb ws v t
theorem TipOk.keep {S₀ S S' : St} {b : Nat} {e : TypeId} {k n : Nat} (h : TipOk S₀ S b e k n) (hk : ∀ o, S b = some o → S' b = some o) : TipOk S₀ S' b e k n := fun hn => ⟨hk _ (h hn).1, (h hn).2⟩
theorem TipOk.upd {S₀ S : St} {b rb : Nat} {e : TypeId} {k n : Nat} (h : TipOk S₀ S b e k n) {e' : TypeId} {cs : List AV} (hr : S rb = some (.obj e' cs)) (o : Own) : TipOk S₀ (S.upd rb o) b e k n := fun hn => by
  obtain ⟨h1, h2⟩ := h hn
  have : b ≠ rb := by rintro rfl; rw [h1] at hr; cases hr
  exact ⟨by rw [St.upd_ne _ _ _ _ this]; exact h1, h2⟩
/-- The reader's cells are written; its lists stay. -/
theorem RdrAt.set {S₀ S : St} {rb : Nat} {ws ws' : List ByteArray} {v v' : StepV} {t : Tips} (h : RdrAt S₀ S rb ws v t) (e1 : v'.ops = v.ops) (e2 : v'.pieces = v.pieces) (e3 : v'.lits = v.lits) (e4 : v'.ids = v.ids) : RdrAt S₀ (S.upd rb (rdr ws' (stepC v' t))) rb ws' v' t :=
  ⟨St.le_upd h.le h.new _, h.new, St.upd_same _ _ _, by rw [e1]; exact h.t3.upd h.at_ _, by rw [e2]; exact h.t4.upd h.at_ _, by rw [e3]; exact h.t6.upd h.at_ _, by rw [e4]; exact h.t7.upd h.at_ _⟩
theorem RdrAt.words {S₀ S : St} {rb : Nat} {ws ws' : List ByteArray} {v : StepV} {t : Tips} (h : RdrAt S₀ S rb ws v t) : RdrAt S₀ (S.upd rb (rdr ws' (stepC v t))) rb ws' v t := h.set rfl rfl rfl rfl
/-- A block is laid beside it. -/
theorem RdrAt.more {S₀ S : St} {rb : Nat} {ws : List ByteArray} {v : StepV} {t : Tips} (h : RdrAt S₀ S rb ws v t) {b : Nat} (hb : S b = none) (o : Own) : RdrAt S₀ (S.upd b o) rb ws v t := by
  have hk : ∀ x p, S x = some p → (S.upd b o) x = some p := fun x p hx => by rw [St.upd_ne _ _ _ _ (St.ne_of hb hx)]; exact hx
  exact ⟨fun x p hx => hk _ _ (h.le x p hx), h.new, hk _ _ h.at_, h.t3.keep (hk _), h.t4.keep (hk _), h.t6.keep (hk _), h.t7.keep (hk _)⟩
/-- AccStep leaves the blocks of other element types. -/
theorem AccStep.other {S S' : St} {b b' : Nat} {e : TypeId} {k n m : Nat} (ht : 0 < n → S b = some (.tip e k n)) (ha : AccStep S b e k n m b' S') {x : Nat} {o : Own} (hx : S x = some o) (ho : ∀ n', o ≠ .tip e k n') : S' x = some o := by
  rcases ha with ⟨e1, rfl, rfl⟩ | ⟨e1, S₁, c1, c2, c3, rfl⟩
  · exact hx
  · have : S₁ x = some o := by
      by_cases hn : n = 0
      · rw [c1 hn]; exact hx
      · have hne : x ≠ b := by
          rintro rfl
          rw [ht (by omega)] at hx
          cases hx
          exact ho n rfl
        rw [c2 (by omega), St.del_ne _ _ _ hne]; exact hx
    rw [St.upd_ne _ _ _ _ (fun e => by rw [e, c3] at this; cases this)]; exact this
theorem AccStep.tipOk {S₀ S S' : St} {b b' : Nat} {e : TypeId} {k n m : Nat} (h : TipOk S₀ S b e k n) (hle : St.le S₀ S) (ha : AccStep S b e k n m b' S') : TipOk S₀ S' b' e k (n + m) ∧ St.le S₀ S' := by
  rcases ha with ⟨rfl, rfl, rfl⟩ | ⟨e1, S₁, c1, c2, c3, rfl⟩
  · exact ⟨h, hle⟩
  · have h1 : St.le S₀ S₁ := by
      by_cases hn : n = 0
      · rw [c1 hn]; exact hle
      · rw [c2 (by omega)]; exact St.le_del' hle (h (by omega)).2
    have h0 : S₀ b' = none := by
      cases e : S₀ b' with
      | none => rfl
      | some o => rw [h1 _ _ e] at c3; cases c3
    exact ⟨fun _ => ⟨St.upd_same _ _ _, h0⟩, St.le_upd h1 h0 _⟩
theorem TipOk.keep' {S₀ S S' : St} {b b1 b2 : Nat} {e e' : TypeId} {k n k' n' m : Nat} (h : TipOk S₀ S b e k n) (ht : 0 < n' → S b1 = some (.tip e' k' n')) (ha : AccStep S b1 e' k' n' m b2 S') (hne : e ≠ e') : TipOk S₀ S' b e k n := fun hn =>
  ⟨AccStep.other ht ha (h hn).1 (by intro x he; cases he; exact hne rfl), (h hn).2⟩
theorem RdrAt.push7 {S₀ S S' : St} {rb b' m : Nat} {ws : List ByteArray} {v : StepV} {t : Tips} (h : RdrAt S₀ S rb ws v t) (ha : AccStep S t.b7 9 1 v.ids.length m b' S') {new : List ByteArray} (hm : new.length = m) :
    S' rb = some (rdr ws (stepC v t)) ∧ RdrAt S₀ (S'.upd rb (rdr ws (stepC { v with ids := v.ids ++ new } { t with b7 := b' }))) rb ws { v with ids := v.ids ++ new } { t with b7 := b' } := by
  have ht : 0 < v.ids.length → S t.b7 = some (.tip 9 1 v.ids.length) := fun hn => (h.t7 hn).1
  obtain ⟨k1, k2⟩ := AccStep.tipOk h.t7 h.le ha
  have hr := AccStep.other ht ha h.at_ (by intro n' e; unfold rdr at e; cases e)
  refine ⟨hr, St.le_upd k2 h.new _, h.new, St.upd_same _ _ _, TipOk.upd (h.t3.keep' ht ha ?_) hr _, TipOk.upd (h.t4.keep' ht ha ?_) hr _, TipOk.upd (h.t6.keep' ht ha ?_) hr _, TipOk.upd (by rw [List.length_append, hm]; exact k1) hr _⟩
  all_goals decide
theorem RdrAt.push3 {S₀ S S' : St} {rb b' m : Nat} {ws : List ByteArray} {v : StepV} {t : Tips} (h : RdrAt S₀ S rb ws v t) (ha : AccStep S t.b3 123 3 v.ops.length m b' S') {new : List (Int × ByteArray × Int)} (hm : new.length = m) :
    S' rb = some (rdr ws (stepC v t)) ∧ RdrAt S₀ (S'.upd rb (rdr ws (stepC { v with ops := v.ops ++ new } { t with b3 := b' }))) rb ws { v with ops := v.ops ++ new } { t with b3 := b' } := by
  have ht : 0 < v.ops.length → S t.b3 = some (.tip 123 3 v.ops.length) := fun hn => (h.t3 hn).1
  obtain ⟨k1, k2⟩ := AccStep.tipOk h.t3 h.le ha
  have hr := AccStep.other ht ha h.at_ (by intro n' e; unfold rdr at e; cases e)
  refine ⟨hr, St.le_upd k2 h.new _, h.new, St.upd_same _ _ _, TipOk.upd (by rw [List.length_append, hm]; exact k1) hr _, TipOk.upd (h.t4.keep' ht ha ?_) hr _, TipOk.upd (h.t6.keep' ht ha ?_) hr _, TipOk.upd (h.t7.keep' ht ha ?_) hr _⟩
  all_goals decide
theorem RdrAt.push4 {S₀ S S' : St} {rb b' m : Nat} {ws : List ByteArray} {v : StepV} {t : Tips} (h : RdrAt S₀ S rb ws v t) (ha : AccStep S t.b4 136 2 v.pieces.length m b' S') {new : List (ByteArray × Int)} (hm : new.length = m) :
    S' rb = some (rdr ws (stepC v t)) ∧ RdrAt S₀ (S'.upd rb (rdr ws (stepC { v with pieces := v.pieces ++ new } { t with b4 := b' }))) rb ws { v with pieces := v.pieces ++ new } { t with b4 := b' } := by
  have ht : 0 < v.pieces.length → S t.b4 = some (.tip 136 2 v.pieces.length) := fun hn => (h.t4 hn).1
  obtain ⟨k1, k2⟩ := AccStep.tipOk h.t4 h.le ha
  have hr := AccStep.other ht ha h.at_ (by intro n' e; unfold rdr at e; cases e)
  refine ⟨hr, St.le_upd k2 h.new _, h.new, St.upd_same _ _ _, TipOk.upd (h.t3.keep' ht ha ?_) hr _, TipOk.upd (by rw [List.length_append, hm]; exact k1) hr _, TipOk.upd (h.t6.keep' ht ha ?_) hr _, TipOk.upd (h.t7.keep' ht ha ?_) hr _⟩
  all_goals decide
theorem RdrAt.push6 {S₀ S S' : St} {rb b' m : Nat} {ws : List ByteArray} {v : StepV} {t : Tips} (h : RdrAt S₀ S rb ws v t) (ha : AccStep S t.b6 3 1 v.lits.length m b' S') {new : List Int} (hm : new.length = m) :
    S' rb = some (rdr ws (stepC v t)) ∧ RdrAt S₀ (S'.upd rb (rdr ws (stepC { v with lits := v.lits ++ new } { t with b6 := b' }))) rb ws { v with lits := v.lits ++ new } { t with b6 := b' } := by
  have ht : 0 < v.lits.length → S t.b6 = some (.tip 3 1 v.lits.length) := fun hn => (h.t6 hn).1
  obtain ⟨k1, k2⟩ := AccStep.tipOk h.t6 h.le ha
  have hr := AccStep.other ht ha h.at_ (by intro n' e; unfold rdr at e; cases e)
  refine ⟨hr, St.le_upd k2 h.new _, h.new, St.upd_same _ _ _, TipOk.upd (h.t3.keep' ht ha ?_) hr _, TipOk.upd (h.t4.keep' ht ha ?_) hr _, TipOk.upd (by rw [List.length_append, hm]; exact k1) hr _, TipOk.upd (h.t7.keep' ht ha ?_) hr _⟩
  all_goals decide
/-! ### number, lit -/
def numG (low : Int) : List ByteArray → ByteArray × Int × List ByteArray
  | [] => (⟨#[]⟩, 82, [])
  | w :: l => if isNumV w.data.toList low then (w, 0, l) else (⟨#[]⟩, 81, l)
theorem number_ok (rb : Nat) (l : List ByteArray) (cs : List AV) (low : Int) (h0 : -9223372036854775808 ≤ low) (h1 : low ≤ 9223372036854775807) (S : St) (hS : S rb = some (rdr l cs)) (hw : ∀ w ∈ l, w.size ≤ 9000000) :
    Triple P (C G) 175 [.ref rb 0, .int .i64 low] S fun o S' => o = .ret (.tu [.str (numG low l).1, errAV (numG low l).2.1]) ∧ S' = S.upd rb (rdr (numG low l).2.2 cs) := by
  refine triple_of_awp (hT G) hm Tryz.func175 rfl (by decide +kernel) rfl (by decide +kernel) (by show 2 ≤ _; decide +kernel) rfl ?_
  conv => whnf
  refine (rtake_ok rb l cs S hS).mono ?_
  cases l with
  | nil =>
    rintro o S' ⟨rfl, rfl⟩
    conv => whnf
    refine ⟨_, _, ⟨rfl, rfl⟩, ?_, AV.leS_refl _ _ _⟩
    rw [show rdr (numG low []).2.2 cs = rdr [] cs from rfl, St.upd_id hS]; exact St.le_refl _
  | cons w l =>
    rintro o S' ⟨rfl, rfl⟩
    conv => whnf
    refine (isNumber_ok w (hw w (by simp)) low h0 h1 _).mono ?_
    rintro o S' ⟨rfl, rfl⟩
    simp only [numG]
    cases isNumV w.data.toList low with
    | false =>
      conv => whnf
      refine (fail_ok 81 _).mono ?_
      rintro o S' ⟨rfl, rfl⟩
      conv => whnf
      exact ⟨_, _, ⟨rfl, rfl⟩, St.le_refl _, AV.leS_refl _ _ _⟩
    | true =>
      conv => whnf
      exact ⟨_, _, ⟨rfl, rfl⟩, St.le_refl _, AV.leS_refl _ _ _⟩
def rlitG : List ByteArray → Int × Int × List ByteArray
  | [] => (0, 82, [])
  | w :: l => if litV w.data.toList = 0 then (0, 81, l) else (litV w.data.toList, 0, l)
theorem rlit_ok (hG : GS G) (rb : Nat) (l : List ByteArray) (cs : List AV) (S : St) (hS : S rb = some (rdr l cs)) (hw : ∀ w ∈ l, w.size ≤ 9000000) :
    Triple P (C G) 197 [.ref rb 0] S fun o S' => o = .ret (.tu [.int .i64 (rlitG l).1, errAV (rlitG l).2.1]) ∧ S' = S.upd rb (rdr (rlitG l).2.2 cs) := by
  refine triple_of_awp (hT G) hm Tryz.func197 rfl (by decide +kernel) rfl (by decide +kernel) (by show 1 ≤ _; decide +kernel) rfl ?_
  conv => whnf
  refine (rtake_ok rb l cs S hS).mono ?_
  cases l with
  | nil =>
    rintro o S' ⟨rfl, rfl⟩
    conv => whnf
    refine ⟨_, _, ⟨rfl, rfl⟩, ?_, AV.leS_refl _ _ _⟩
    rw [show rdr (rlitG []).2.2 cs = rdr [] cs from rfl, St.upd_id hS]; exact St.le_refl _
  | cons w l =>
    rintro o S' ⟨rfl, rfl⟩
    conv => whnf
    refine (literal_ok hG w (hw w (by simp)) _).mono ?_
    rintro o S' ⟨rfl, rfl⟩
    simp only [rlitG]
    generalize litV w.data.toList = z
    conv => whnf
    refine split_of (fun h => ?_) (fun h => ?_)
    · have h : z = 0 := by simpa using h
      rw [if_pos h]
      conv => whnf
      refine (fail_ok 81 _).mono ?_
      rintro o S' ⟨rfl, rfl⟩
      conv => whnf
      exact ⟨_, _, ⟨rfl, rfl⟩, St.le_refl _, AV.leS_refl _ _ _⟩
    · have h : ¬ z = 0 := by simpa using h
      rw [if_neg h]
      conv => whnf
      exact ⟨_, _, ⟨rfl, rfl⟩, St.le_refl _, AV.leS_refl _ _ _⟩
end Go.Proofs.YtcpdgnkhkdddhaaGreatDoor.Aw

set_option maxRecDepth 100000
set_option linter.unusedVariables false
set_option linter.unusedSimpArgs false
namespace Go.Proofs.YtcpdgnkhkdddhaaGreatDoor.Aw
open Go Go.RowKit
variable {G : Nat → Option (List AV)}

def idsG : List ByteArray → List ByteArray → List ByteArray × Int × List ByteArray
  | [], ids => (ids, 0, [])
  | w :: l, ids => if isNumV w.data.toList 1 then idsG l (ids ++ [w]) else (ids, 81, l)
theorem rowsS_snoc (l : List ByteArray) (x : ByteArray) : rowsS l ++ [[AV.str x]] = rowsS (l ++ [x]) := by simp [rowsS]
theorem rowsI_snoc (l : List Int) (x : Int) : rowsI l ++ [[AV.int .i64 x]] = rowsI (l ++ [x]) := by simp [rowsI]
theorem ids_ok {S₀ S : St} {rb : Nat} {ws : List ByteArray} {v : StepV} (h : Rdr S₀ S rb ws v) (hw : ∀ w ∈ ws, w.size ≤ 9000000) (hn : ws.length + v.ids.length ≤ 10000000) :
    Triple P (C G) 178 [.ref rb 0] S fun o S' => o = .ret (errAV (idsG ws v.ids).2.1) ∧ Rdr S₀ S' rb (idsG ws v.ids).2.2 { v with ids := (idsG ws v.ids).1 } := by
  refine triple_of_awp (hT G) hm Tryz.func178 rfl (by decide +kernel) rfl (by decide +kernel) (by show 1 ≤ _; decide +kernel) rfl ?_
  conv => whnf
  refine ⟨⟨List ByteArray × List ByteArray, fun _ => [(0, .ref rb 0)],
    fun x S' => Rdr S₀ S' rb x.1 { v with ids := x.2 } ∧ idsG x.1 x.2 = idsG ws v.ids ∧ x.1.length + x.2.length ≤ 10000000 ∧ ∀ w ∈ x.1, w.size ≤ 9000000, fun x => x.1.length⟩,
    ⟨(ws, v.ids), ⟨rfl, trivial⟩, ⟨_, St.leW_refl _, h, rfl, hn, hw⟩⟩, ?_⟩
  rintro ⟨l, ids⟩ S₁ ⟨⟨t, hat⟩, h2, h3, h4⟩
  dsimp only at hat h2 h3 h4
  rw [← h2]
  have hcs := hat.at_
  conv => whnf
  refine ⟨_, _, hcs, ?_⟩
  conv => whnf
  intro _
  cases l with
  | nil =>
    conv => whnf
    exact ⟨_, _, ⟨rfl, t, hat⟩, St.le_refl _, AV.leS_refl _ _ _⟩
  | cons w l =>
    refine split_of (fun hlt => ?_) (fun hlt => by simp [rowsS] at hlt)
    conv => whnf
    refine (number_ok rb (w :: l) _ 1 (by decide) (by decide) S₁ hcs h4).mono ?_
    rintro o S' ⟨rfl, rfl⟩
    simp only [numG, idsG] at h2 ⊢
    cases hnum : isNumV w.data.toList 1 with
    | false =>
      rw [hnum] at h2
      simp only [Bool.false_eq_true, if_false] at h2 ⊢
      conv => whnf
      exact ⟨_, _, ⟨rfl, t, hat.words⟩, St.le_refl _, AV.leS_refl _ _ _⟩
    | true =>
      rw [hnum] at h2
      simp only [if_true] at h2 ⊢
      have hat2 := hat.words (ws' := l)
      rw [show errAV 0 = .nili from rfl]
      have hcs2 := hat2.at_
      generalize S₁.upd rb (rdr l (stepC { v with ids := ids } t)) = S₂ at *
      conv => whnf
      refine ⟨_, _, hcs2, ?_⟩
      conv => whnf
      intro bb hbb
      have hat3 := hat2.more hbb (.tip 9 1 1)
      conv => whnf
      refine ⟨⟨fun hl => ?_, ?_⟩, fun S3 c1 c2 b' c3 => ?_⟩
      · have : 0 < ids.length := by cases ids with
          | nil => exact absurd rfl hl
          | cons _ _ => simp
        rw [rowsS_len]; exact (hat3.t7 this).1
      · show ((rowsS ids).length + 1) * 16 ≤ _
        rw [rowsS_len]; simp at h3; omega
      have ha : AccStep (S₂.upd bb (.tip 9 1 1)) t.b7 9 1 ids.length 1 b' (S3.upd b' (.tip 9 1 (ids.length + 1))) := .inr ⟨by simp, S3, fun e => c1 (by rw [List.eq_nil_of_length_eq_zero e]; rfl), fun e => c2 (by cases ids <;> simp_all [rowsS]), c3, rfl⟩
      obtain ⟨k1, k2⟩ := hat3.push7 ha (new := [w]) rfl
      rw [show rowsS ({ v with ids := ids } : StepV).ids ++ [[AV.str w]] = rowsS (ids ++ [w]) from rowsS_snoc ids w, show (rowsS ({ v with ids := ids } : StepV).ids).length = ids.length from rowsS_len ids]
      conv => whnf
      refine ⟨_, _, k1, ?_⟩
      conv => whnf
      refine ⟨(l, ids ++ [w]), ⟨rfl, trivial⟩, ⟨_, St.leW_refl _, ⟨_, k2⟩, ?_, by simp at h3 ⊢; omega, fun x hx => h4 x (by simp [hx])⟩, by show l.length < l.length + 1; omega⟩
      exact rfl
def litsG : List ByteArray → List Int → List Int × Int × List ByteArray
  | [], ls => (ls, 0, [])
  | w :: l, ls => if litV w.data.toList = 0 then (ls, 81, l) else litsG l (ls ++ [litV w.data.toList])
theorem lits_ok (hG : GS G) {S₀ S : St} {rb : Nat} {ws : List ByteArray} {v : StepV} (h : Rdr S₀ S rb ws v) (hw : ∀ w ∈ ws, w.size ≤ 9000000) (hn : ws.length + v.lits.length ≤ 10000000) :
    Triple P (C G) 179 [.ref rb 0] S fun o S' => o = .ret (errAV (litsG ws v.lits).2.1) ∧ Rdr S₀ S' rb (litsG ws v.lits).2.2 { v with lits := (litsG ws v.lits).1 } := by
  refine triple_of_awp (hT G) hm Tryz.func179 rfl (by decide +kernel) rfl (by decide +kernel) (by show 1 ≤ _; decide +kernel) rfl ?_
  conv => whnf
  refine ⟨⟨List ByteArray × List Int, fun _ => [(0, .ref rb 0)],
    fun x S' => Rdr S₀ S' rb x.1 { v with lits := x.2 } ∧ litsG x.1 x.2 = litsG ws v.lits ∧ x.1.length + x.2.length ≤ 10000000 ∧ ∀ w ∈ x.1, w.size ≤ 9000000, fun x => x.1.length⟩,
    ⟨(ws, v.lits), ⟨rfl, trivial⟩, ⟨_, St.leW_refl _, h, rfl, hn, hw⟩⟩, ?_⟩
  rintro ⟨l, ls⟩ S₁ ⟨⟨t, hat⟩, h2, h3, h4⟩
  dsimp only at hat h2 h3 h4
  rw [← h2]
  have hcs := hat.at_
  conv => whnf
  refine ⟨_, _, hcs, ?_⟩
  conv => whnf
  intro _
  cases l with
  | nil =>
    conv => whnf
    exact ⟨_, _, ⟨rfl, t, hat⟩, St.le_refl _, AV.leS_refl _ _ _⟩
  | cons w l =>
    refine split_of (fun hlt => ?_) (fun hlt => by simp [rowsS] at hlt)
    conv => whnf
    refine (rlit_ok hG rb (w :: l) _ S₁ hcs h4).mono ?_
    rintro o S' ⟨rfl, rfl⟩
    simp only [rlitG, litsG] at h2 ⊢
    generalize litV w.data.toList = z at *
    by_cases hz : z = 0
    · simp only [hz, if_true] at h2 ⊢
      conv => whnf
      exact ⟨_, _, ⟨rfl, t, hat.words⟩, St.le_refl _, AV.leS_refl _ _ _⟩
    · simp only [if_neg hz] at h2 ⊢
      have hat2 := hat.words (ws' := l)
      rw [show errAV 0 = .nili from rfl]
      have hcs2 := hat2.at_
      generalize S₁.upd rb (rdr l (stepC { v with lits := ls } t)) = S₂ at *
      conv => whnf
      refine ⟨_, _, hcs2, ?_⟩
      conv => whnf
      intro bb hbb
      have hat3 := hat2.more hbb (.tip 3 1 1)
      conv => whnf
      refine ⟨⟨fun hl => ?_, ?_⟩, fun S3 c1 c2 b' c3 => ?_⟩
      · have : 0 < ls.length := by cases ls with
          | nil => exact absurd rfl hl
          | cons _ _ => simp
        rw [rowsI_len]; exact (hat3.t6 this).1
      · show ((rowsI ls).length + 1) * 8 ≤ _
        rw [rowsI_len]; simp at h3; omega
      have ha : AccStep (S₂.upd bb (.tip 3 1 1)) t.b6 3 1 ls.length 1 b' (S3.upd b' (.tip 3 1 (ls.length + 1))) := .inr ⟨by simp, S3, fun e => c1 (by rw [List.eq_nil_of_length_eq_zero e]; rfl), fun e => c2 (by cases ls <;> simp_all [rowsI]), c3, rfl⟩
      obtain ⟨k1, k2⟩ := hat3.push6 ha (new := [z]) rfl
      rw [show rowsI ({ v with lits := ls } : StepV).lits ++ [[AV.int .i64 z]] = rowsI (ls ++ [z]) from rowsI_snoc ls z, show (rowsI ({ v with lits := ls } : StepV).lits).length = ls.length from rowsI_len ls]
      conv => whnf
      refine ⟨_, _, k1, ?_⟩
      conv => whnf
      refine ⟨(l, ls ++ [z]), ⟨rfl, trivial⟩, ⟨_, St.leW_refl _, ⟨_, k2⟩, ?_, by simp at h3 ⊢; omega, fun x hx => h4 x (by simp [hx])⟩, by show l.length < l.length + 1; omega⟩
      exact rfl
end Go.Proofs.YtcpdgnkhkdddhaaGreatDoor.Aw

set_option maxRecDepth 100000
set_option linter.unusedVariables false
set_option linter.unusedSimpArgs false
namespace Go.Proofs.YtcpdgnkhkdddhaaGreatDoor.Aw
open Go Go.RowKit
variable {G : Nat → Option (List AV)}

def geS : ByteArray := ⟨#[62, 61]⟩
def semiS : ByteArray := ⟨#[59]⟩
def pieceG : List ByteArray → List (ByteArray × Int) → List (ByteArray × Int) × Int × List ByteArray
  | [], p => (p, 82, [])
  | [w], p => if w = geS then (p, 0, [w]) else if isNumV w.data.toList (-1) then (p, 82, []) else (p, 81, [])
  | w :: x :: l, p => if w = geS then (p, 0, w :: x :: l) else if isNumV w.data.toList (-1) then (if litV x.data.toList = 0 then (p, 81, l) else pieceG l (p ++ [(w, litV x.data.toList)])) else (p, 81, x :: l)
/-- The bound, and the end of the row. -/
def boundG (l : List ByteArray) (v : StepV) : Int × List ByteArray × StepV :=
  if (numG (-1) l).2.1 = 0 then ((exactG (numG (-1) l).2.2 [semiS]).2, (exactG (numG (-1) l).2.2 [semiS]).1, { v with bound := (numG (-1) l).1 })
  else ((numG (-1) l).2.1, (numG (-1) l).2.2, { v with bound := (numG (-1) l).1 })
/-- What row leaves: the error's number, the words, the step. -/
def rowG (ws : List ByteArray) (v : StepV) : Int × List ByteArray × StepV :=
  if (pieceG ws v.pieces).2.1 = 0 then boundG (pieceG ws v.pieces).2.2.tail { v with pieces := (pieceG ws v.pieces).1 }
  else ((pieceG ws v.pieces).2.1, (pieceG ws v.pieces).2.2, { v with pieces := (pieceG ws v.pieces).1 })
theorem rowsP_snoc (l : List (ByteArray × Int)) (x : ByteArray × Int) : rowsP l ++ [[AV.str x.1, AV.int .i64 x.2]] = rowsP (l ++ [x]) := by simp [rowsP]
theorem row_ok (hG : GS G) {S₀ S : St} {rb : Nat} {ws : List ByteArray} {v : StepV} (h : Rdr S₀ S rb ws v) (hw : ∀ w ∈ ws, w.size ≤ 9000000) (hn : ws.length + v.pieces.length ≤ 10000000) :
    Triple P (C G) 177 [.ref rb 0] S fun o S' => o = .ret (errAV (rowG ws v).1) ∧ Rdr S₀ S' rb (rowG ws v).2.1 (rowG ws v).2.2 := by
  refine triple_of_awp (hT G) hm Tryz.func177 rfl (by decide +kernel) rfl (by decide +kernel) (by show 1 ≤ _; decide +kernel) rfl ?_
  refine awp_seq2 fun K hK hQ => ?_
  conv => whnf
  refine hK _ _ ?_
  clear hK hQ K
  refine awp_seq2 fun K hK hQ => ?_
  conv => whnf
  refine ⟨⟨List ByteArray × List (ByteArray × Int), fun _ => [(0, .ref rb 0)],
    fun x S' => Rdr S₀ S' rb x.1 { v with pieces := x.2 } ∧ pieceG x.1 x.2 = pieceG ws v.pieces ∧ x.1.length + x.2.length ≤ 10000000 ∧ ∀ w ∈ x.1, w.size ≤ 9000000, fun x => x.1.length⟩,
    ⟨(ws, v.pieces), ⟨rfl, trivial⟩, ⟨_, St.leW_refl _, h, rfl, hn, hw⟩⟩, ?_⟩
  rintro ⟨l, ps⟩ S₁ ⟨⟨t, hat⟩, h2, h3, h4⟩
  dsimp only at hat h2 h3 h4
  have hcs := hat.at_
  conv => whnf
  refine (rnext_ok rb l _ geS S₁ hcs).mono ?_
  rintro o T ⟨rfl, rfl⟩
  by_cases hge : l.head? = some geS
  · obtain ⟨l', rfl⟩ : ∃ l', l = geS :: l' := by
      cases l with
      | nil => cases hge
      | cons w l' => simp only [List.head?_cons, Option.some.injEq] at hge; exact ⟨l', by rw [hge]⟩
    rw [decide_eq_true hge]
    have hr : pieceG (geS :: l') ps = (ps, 0, geS :: l') := by cases l' <;> simp [pieceG]
    have hrow : rowG ws v = boundG l' { v with pieces := ps } := by
      unfold rowG
      rw [← h2, hr]
      rfl
    rw [hrow] at hK hQ
    clear h2 hrow
    conv => whnf
    refine hK _ _ ?_
    clear hK hQ K
    refine awp_seq2 fun K hK hQ => ?_
    conv => whnf
    intro bb hbb
    have hat2 := hat.more hbb (.tip 9 ((C G).T 9).size 1)
    conv => whnf
    refine Triple.use (exactly_ok rb (geS :: l') _ [geS] (by decide) _ hat2.at_) (by exact ⟨rfl, ⟨rfl, rfl⟩, trivial⟩) ?_
    rintro o S' ⟨rfl, rfl⟩
    have hat3 := hat2.words (ws' := l')
    rw [show (exactG (geS :: l') [geS]).2 = 0 by simp [exactG], show (exactG (geS :: l') [geS]).1 = l' by simp [exactG]]
    rw [show errAV 0 = .nili from rfl]
    have hcs3 := hat3.at_
    generalize (T.upd bb _).upd rb _ = S3 at hat3 hcs3 ⊢
    conv => whnf
    refine hK _ _ ?_
    clear hK hQ K
    have hnum := number_ok (G := G) rb l' _ (-1) (by decide) (by decide) S3 hcs3 (fun x hx => h4 x (by simp [hx]))
    have hat4 := hat3.words (ws' := (numG (-1) l').2.2)
    have hcs4 := hat4.at_
    unfold boundG
    generalize hl2 : (numG (-1) l').2.2 = l2 at *
    generalize (numG (-1) l').1 = nb at *
    generalize (numG (-1) l').2.1 = ne at *
    have hat5 := hat4.set (v' := { v with pieces := ps, bound := nb }) (ws' := l2) rfl rfl rfl rfl
    have hcs5 := hat5.at_
    by_cases hn0 : ne = 0
    · rw [if_pos hn0]
      subst hn0
      refine awp_seq2 fun K hK hQ => ?_
      conv => whnf
      refine hnum.mono ?_
      rintro o S' ⟨rfl, rfl⟩
      rw [show errAV 0 = .nili from rfl]
      conv => whnf
      refine hK _ _ ?_
      clear hK hQ K
      refine awp_seq2 fun K hK hQ => ?_
      conv => whnf
      refine ⟨_, _, hcs4, ?_⟩
      conv => whnf
      refine hK _ _ ?_
      clear hK hQ K
      conv => whnf
      intro b2 hb2
      have hat6 := hat5.more hb2 (.tip 9 ((C G).T 9).size 1)
      conv => whnf
      refine Triple.use (exactly_ok rb l2 _ [semiS] (by decide) _ hat6.at_) (by exact ⟨rfl, ⟨rfl, rfl⟩, trivial⟩) ?_
      rintro o S' ⟨rfl, rfl⟩
      have hat7 := hat6.words (ws' := (exactG l2 [semiS]).1)
      by_cases he : (exactG l2 [semiS]).2 = 0
      · simp only [errAV, if_pos he]
        conv => whnf
        exact ⟨_, _, ⟨rfl, t, hat7⟩, St.le_refl _, AV.leS_refl _ _ _⟩
      · simp only [errAV, if_neg he]
        conv => whnf
        exact ⟨_, _, ⟨rfl, t, hat7⟩, St.le_refl _, AV.leS_refl _ _ _⟩
    · rw [if_neg hn0]
      simp only [errAV, if_neg hn0] at hnum ⊢
      refine awp_seq2 fun K hK hQ => ?_
      conv => whnf
      refine hnum.mono ?_
      rintro o S' ⟨rfl, rfl⟩
      conv => whnf
      refine hK _ _ ?_
      clear hK hQ K
      refine awp_seq2 fun K hK hQ => ?_
      conv => whnf
      refine ⟨_, _, hcs4, ?_⟩
      conv => whnf
      refine hK _ _ ?_
      clear hK hQ K
      conv => whnf
      exact ⟨_, _, ⟨rfl, t, hat5⟩, St.le_refl _, AV.leS_refl _ _ _⟩
  · rw [decide_eq_false hge]
    clear hK
    cases l with
    | nil =>
      have hrow : rowG ws v = (82, [], { v with pieces := ps }) := by unfold rowG; rw [← h2]; rfl
      rw [hrow] at hQ
      conv => whnf
      refine (number_ok rb [] _ (-1) (by decide) (by decide) T hcs h4).mono ?_
      rintro o S' ⟨rfl, rfl⟩
      conv => whnf
      refine hQ _ _ _ (by simp) ?_
      conv => whnf
      exact ⟨_, _, ⟨rfl, t, hat.words⟩, St.le_refl _, AV.leS_refl _ _ _⟩
    | cons w l =>
      have hw0 : ¬ w = geS := fun e => hge (by simp [e])
      have hnum := number_ok (G := G) rb (w :: l) _ (-1) (by decide) (by decide) T hcs h4
      simp only [numG] at hnum
      cases hiw : isNumV w.data.toList (-1) with
      | false =>
        have hr : pieceG (w :: l) ps = (ps, 81, l) := by cases l <;> simp [pieceG, hw0, hiw]
        have hrow : rowG ws v = (81, l, { v with pieces := ps }) := by unfold rowG; rw [← h2, hr]; rfl
        rw [hrow] at hQ
        simp only [hiw, Bool.false_eq_true, if_false] at hnum
        conv => whnf
        refine hnum.mono ?_
        rintro o S' ⟨rfl, rfl⟩
        conv => whnf
        refine hQ _ _ _ (by simp) ?_
        conv => whnf
        exact ⟨_, _, ⟨rfl, t, hat.words⟩, St.le_refl _, AV.leS_refl _ _ _⟩
      | true =>
        simp only [hiw, if_true] at hnum
        have hat2 := hat.words (ws' := l)
        have hcs2 := hat2.at_
        have h4' : ∀ x ∈ l, x.size ≤ 9000000 := fun x hx => h4 x (by simp [hx])
        have hlit := rlit_ok hG rb l _ _ hcs2 h4'
        cases l with
        | nil =>
          have hr : pieceG [w] ps = (ps, 82, []) := by simp [pieceG, hw0, hiw]
          have hrow : rowG ws v = (82, [], { v with pieces := ps }) := by unfold rowG; rw [← h2, hr]; rfl
          rw [hrow] at hQ
          conv => whnf
          refine hnum.mono ?_
          rintro o S' ⟨rfl, rfl⟩
          conv => whnf
          refine hlit.mono ?_
          rintro o S' ⟨rfl, rfl⟩
          conv => whnf
          refine hQ _ _ _ (by simp) ?_
          conv => whnf
          exact ⟨_, _, ⟨rfl, t, hat2.words⟩, St.le_refl _, AV.leS_refl _ _ _⟩
        | cons x l =>
          have hat3 := hat2.words (ws' := l)
          have hcs3 := hat3.at_
          simp only [rlitG] at hlit
          generalize hz : litV x.data.toList = z at *
          by_cases hz0 : z = 0
          · have hr : pieceG (w :: x :: l) ps = (ps, 81, l) := by simp [pieceG, hw0, hiw, hz, hz0]
            have hrow : rowG ws v = (81, l, { v with pieces := ps }) := by unfold rowG; rw [← h2, hr]; rfl
            rw [hrow] at hQ
            simp only [if_pos hz0] at hlit
            conv => whnf
            refine hnum.mono ?_
            rintro o S' ⟨rfl, rfl⟩
            conv => whnf
            refine hlit.mono ?_
            rintro o S' ⟨rfl, rfl⟩
            conv => whnf
            refine hQ _ _ _ (by simp) ?_
            conv => whnf
            exact ⟨_, _, ⟨rfl, t, hat3⟩, St.le_refl _, AV.leS_refl _ _ _⟩
          · have hr : pieceG (w :: x :: l) ps = pieceG l (ps ++ [(w, z)]) := by simp [pieceG, hw0, hiw, hz, hz0]
            simp only [if_neg hz0] at hlit
            rw [hr] at h2
            clear hQ
            generalize (T.upd rb _).upd rb _ = S3 at hat3 hcs3 hlit ⊢
            conv => whnf
            refine hnum.mono ?_
            rintro o S' ⟨rfl, rfl⟩
            conv => whnf
            refine hlit.mono ?_
            rintro o S' ⟨rfl, rfl⟩
            rw [show errAV 0 = .nili from rfl]
            conv => whnf
            refine ⟨_, _, hcs3, ?_⟩
            conv => whnf
            intro bb hbb
            have hat4 := hat3.more hbb (.tip 136 2 1)
            conv => whnf
            refine ⟨⟨fun hl => ?_, ?_⟩, fun S4 c1 c2 b' c3 => ?_⟩
            · have : 0 < ps.length := by cases ps with
                | nil => exact absurd rfl hl
                | cons _ _ => simp
              rw [rowsP_len]; exact (hat4.t4 this).1
            · show ((rowsP ps).length + 1) * 24 ≤ _
              rw [rowsP_len]; simp at h3; omega
            have ha : AccStep (_ : St) t.b4 136 2 ps.length 1 b' (S4.upd b' (.tip 136 2 (ps.length + 1))) := .inr ⟨by simp, S4, fun e => c1 (by rw [List.eq_nil_of_length_eq_zero e]; rfl), fun e => c2 (by cases ps <;> simp_all [rowsP]), c3, rfl⟩
            obtain ⟨k1, k2⟩ := hat4.push4 ha (new := [(w, z)]) rfl
            rw [show rowsP ({ v with pieces := ps } : StepV).pieces ++ [[AV.str w, AV.int .i64 z]] = rowsP (ps ++ [(w, z)]) from rowsP_snoc ps (w, z), show (rowsP ({ v with pieces := ps } : StepV).pieces).length = ps.length from rowsP_len ps]
            conv => whnf
            refine ⟨_, _, k1, ?_⟩
            conv => whnf
            refine ⟨(l, ps ++ [(w, z)]), ⟨rfl, trivial⟩, ⟨_, St.leW_refl _, ⟨_, k2⟩, h2, by simp at h3 ⊢; omega, fun y hy => h4 y (by simp [hy])⟩, by show l.length < l.length + 1 + 1; omega⟩
end Go.Proofs.YtcpdgnkhkdddhaaGreatDoor.Aw

set_option linter.unusedVariables false
namespace Go.Proofs.YtcpdgnkhkdddhaaGreatDoor.Aw
open Go Go.RowKit

def ov (S₀ : St) : List (Nat × Own) → St
  | [] => S₀
  | (b, o) :: r => (ov S₀ r).upd b o
structure FpOk (S₀ : St) (fp : List (Nat × Own)) : Prop where
  nd : (fp.map (·.1)).Nodup
  new : ∀ p ∈ fp, S₀ p.1 = none
theorem FpOk.nil (S₀ : St) : FpOk S₀ [] := ⟨by simp, by simp⟩
theorem ov_out {S₀ : St} : ∀ {fp : List (Nat × Own)} {b : Nat}, b ∉ fp.map (·.1) → ov S₀ fp b = S₀ b
  | [], b, h => rfl
  | (c, o) :: r, b, h => by
    simp only [List.map_cons, List.mem_cons, not_or] at h
    simp only [ov, St.upd_ne _ _ _ _ h.1]
    exact ov_out h.2
theorem ov_get {S₀ : St} : ∀ {fp : List (Nat × Own)}, (fp.map (·.1)).Nodup → ∀ {b o}, (b, o) ∈ fp → ov S₀ fp b = some o
  | [], _, b, o, h => by cases h
  | (c, p) :: r, hn, b, o, h => by
    simp only [List.map_cons, List.nodup_cons] at hn
    rcases List.mem_cons.1 h with h | h
    · cases h; simp only [ov, St.upd_same]
    · have : b ≠ c := fun e => hn.1 (by rw [← e]; exact List.mem_map.2 ⟨_, h, rfl⟩)
      simp only [ov, St.upd_ne _ _ _ _ this]
      exact ov_get hn.2 h
theorem ov_none {S₀ : St} {fp : List (Nat × Own)} (hn : (fp.map (·.1)).Nodup) {b : Nat} (h : ov S₀ fp b = none) : S₀ b = none ∧ b ∉ fp.map (·.1) := by
  by_cases hb : b ∈ fp.map (·.1)
  · obtain ⟨⟨c, o⟩, h1, rfl⟩ := List.mem_map.1 hb
    rw [ov_get hn h1] at h; cases h
  · exact ⟨(ov_out (S₀ := S₀) hb).symm.trans h, hb⟩
/-- A store over the same blocks is the same store. -/
theorem ov_ext {S₀ : St} {fp fp' : List (Nat × Own)} (h1 : (fp.map (·.1)).Nodup) (h2 : (fp'.map (·.1)).Nodup) (h : ∀ p, p ∈ fp ↔ p ∈ fp') : ov S₀ fp = ov S₀ fp' := by
  funext b
  by_cases hb : b ∈ fp.map (·.1)
  · obtain ⟨⟨c, o⟩, k1, rfl⟩ := List.mem_map.1 hb
    rw [ov_get h1 k1, ov_get h2 ((h _).1 k1)]
  · have hb' : b ∉ fp'.map (·.1) := fun hh => by
      obtain ⟨p, k1, rfl⟩ := List.mem_map.1 hh
      exact hb (List.mem_map.2 ⟨p, (h _).2 k1, rfl⟩)
    rw [ov_out hb, ov_out hb']
theorem ov_upd_mid {S₀ : St} {b : Nat} {o o' : Own} : ∀ {pre post : List (Nat × Own)}, ((pre ++ (b, o) :: post).map (·.1)).Nodup → (ov S₀ (pre ++ (b, o) :: post)).upd b o' = ov S₀ (pre ++ (b, o') :: post)
  | [], post, h => by simp only [List.nil_append, ov, St.upd_upd]
  | (c, p) :: pre, post, h => by
    simp only [List.cons_append, List.map_cons, List.nodup_cons] at h
    have hbc : c ≠ b := fun e => h.1 (by rw [e]; simp)
    simp only [List.cons_append, ov]
    rw [St.upd_comm hbc, ov_upd_mid h.2]
theorem ov_new_mid {S₀ : St} {b : Nat} {o : Own} : ∀ {pre post : List (Nat × Own)}, b ∉ (pre ++ post).map (·.1) → (ov S₀ (pre ++ post)).upd b o = ov S₀ (pre ++ (b, o) :: post)
  | [], post, h => rfl
  | (c, p) :: pre, post, h => by
    simp only [List.cons_append, List.map_cons, List.mem_cons, not_or] at h
    simp only [List.cons_append, ov]
    rw [St.upd_comm (Ne.symm h.1), ov_new_mid h.2]
theorem ov_del_mid {S₀ : St} {b : Nat} {o : Own} (hb : S₀ b = none) : ∀ {pre post : List (Nat × Own)}, ((pre ++ (b, o) :: post).map (·.1)).Nodup → (ov S₀ (pre ++ (b, o) :: post)).del b = ov S₀ (pre ++ post)
  | [], post, h => by
    simp only [List.nil_append, List.map_cons, List.nodup_cons] at h
    simp only [List.nil_append, ov]
    exact St.del_upd (by rw [ov_out h.1]; exact hb)
  | (c, p) :: pre, post, h => by
    simp only [List.cons_append, List.map_cons, List.nodup_cons] at h
    have hbc : c ≠ b := fun e => h.1 (by rw [e]; simp)
    simp only [List.cons_append, ov]
    rw [← ov_del_mid hb h.2]
    funext x
    by_cases hx : x = b
    · subst hx; rw [St.del_same, St.upd_ne _ _ _ _ (Ne.symm hbc), St.del_same]
    · rw [St.del_ne _ _ _ hx]
      by_cases hc : x = c
      · subst hc; rw [St.upd_same, St.upd_same]
      · rw [St.upd_ne _ _ _ _ hc, St.upd_ne _ _ _ _ hc, St.del_ne _ _ _ hx]
theorem FpOk.set {S₀ : St} {b : Nat} {o : Own} {pre post : List (Nat × Own)} (h : FpOk S₀ (pre ++ (b, o) :: post)) (o' : Own) : FpOk S₀ (pre ++ (b, o') :: post) := by
  refine ⟨by simpa using h.nd, fun p hp => ?_⟩
  simp only [List.mem_append, List.mem_cons] at hp
  rcases hp with hp | rfl | hp
  · exact h.new p (by simp [hp])
  · exact h.new (b, o) (by simp)
  · exact h.new p (by simp [hp])
theorem FpOk.add {S₀ : St} {b : Nat} {pre post : List (Nat × Own)} (h : FpOk S₀ (pre ++ post)) (hb : ov S₀ (pre ++ post) b = none) (o : Own) : FpOk S₀ (pre ++ (b, o) :: post) := by
  obtain ⟨h1, h2⟩ := ov_none h.nd hb
  refine ⟨?_, fun p hp => ?_⟩
  · have hn := h.nd
    simp only [List.map_append, List.map_cons] at hn h2 ⊢
    rw [List.nodup_append] at hn ⊢
    obtain ⟨n1, n2, n3⟩ := hn
    simp only [List.mem_append, not_or] at h2
    refine ⟨n1, List.nodup_cons.2 ⟨h2.2, n2⟩, fun x hx y hy => ?_⟩
    rcases List.mem_cons.1 hy with rfl | hy
    · exact fun e => h2.1 (by rw [← e]; exact hx)
    · exact n3 x hx y hy
  · simp only [List.mem_append, List.mem_cons] at hp
    rcases hp with hp | rfl | hp
    · exact h.new p (by simp [hp])
    · exact h1
    · exact h.new p (by simp [hp])
theorem FpOk.sub {S₀ : St} {fp fp' : List (Nat × Own)} (h : FpOk S₀ fp) (hs : List.Sublist fp' fp) : FpOk S₀ fp' :=
  ⟨List.Nodup.sublist (hs.map _) h.nd, fun p hp => h.new p (hs.subset hp)⟩
theorem FpOk.drop {S₀ : St} {b : Nat} {o : Own} {pre post : List (Nat × Own)} (h : FpOk S₀ (pre ++ (b, o) :: post)) : FpOk S₀ (pre ++ post) :=
  h.sub ((List.Sublist.refl pre).append (List.sublist_cons_self _ _))
theorem FpOk.perm {S₀ : St} {fp fp' : List (Nat × Own)} (h : FpOk S₀ fp) (hp : fp.Perm fp') : FpOk S₀ fp' ∧ ov S₀ fp' = ov S₀ fp := by
  have h' : FpOk S₀ fp' := ⟨(hp.map _).nodup_iff.1 h.nd, fun p hh => h.new p (hp.mem_iff.2 hh)⟩
  exact ⟨h', ov_ext h'.nd h.nd fun p => hp.mem_iff.symm⟩
theorem ov_le (S₀ : St) {fp : List (Nat × Own)} (h : FpOk S₀ fp) : St.le S₀ (ov S₀ fp) := fun b o hb => by
  have : b ∉ fp.map (·.1) := fun hh => by
    obtain ⟨p, h1, rfl⟩ := List.mem_map.1 hh
    rw [h.new p h1] at hb; cases hb
  rw [ov_out this]; exact hb
theorem ov_sub_le {S₀ : St} {fp fp' : List (Nat × Own)} (h : FpOk S₀ fp) (hs : ∀ p ∈ fp', p ∈ fp) (hn : (fp'.map (·.1)).Nodup) : St.le (ov S₀ fp') (ov S₀ fp) := fun b o hb => by
  by_cases hm : b ∈ fp'.map (·.1)
  · obtain ⟨⟨c, p⟩, h1, rfl⟩ := List.mem_map.1 hm
    rw [ov_get hn h1] at hb
    cases hb
    exact ov_get h.nd (hs _ h1)
  · rw [ov_out hm] at hb
    exact ov_le S₀ h b o hb
theorem St.le_self {S : St} {b : Nat} {o : Own} (h : S b = some o) : St.le S (S.upd b o) := by rw [St.upd_self h]; exact St.le_refl _
/-- A list that is grown (its elements of one cell), at its place among the others. -/
structure AccL where
  b : Nat
  es : List (List AV)
def AccL.av (a : AccL) : AV := .sl (.acc a.b) 1 a.es
def AccL.fp (a : AccL) (e : TypeId) : List (Nat × Own) := match a.es with | [] => [] | r :: rs => [(a.b, .tip e 1 (r :: rs).length)]
def AccL.empty : AccL := ⟨0, []⟩
def AccL.push (a : AccL) (b : Nat) (x : AV) : AccL := ⟨b, a.es ++ [[x]]⟩
theorem AccL.tip {S₀ : St} {pre post : List (Nat × Own)} {a : AccL} {e : TypeId} (h : FpOk S₀ (pre ++ (a.fp e ++ post))) (hn : a.es ≠ []) : ov S₀ (pre ++ (a.fp e ++ post)) a.b = some (.tip e 1 a.es.length) := by
  refine ov_get h.nd ?_
  obtain ⟨b, es⟩ := a
  cases es with
  | nil => exact absurd rfl hn
  | cons r rs => simp [AccL.fp]
theorem AccL.pushed {S₀ : St} {pre post : List (Nat × Own)} {a : AccL} {e : TypeId} (h : FpOk S₀ (pre ++ (a.fp e ++ post))) {S₁ : St} (h1 : a.es = [] → S₁ = ov S₀ (pre ++ (a.fp e ++ post))) (h2 : a.es ≠ [] → S₁ = (ov S₀ (pre ++ (a.fp e ++ post))).del a.b) {b' : Nat} (hb : S₁ b' = none)
    (x : AV) {n : Nat} (hn : n = a.es.length + 1) :
    S₁.upd b' (.tip e 1 n) = ov S₀ (pre ++ ((a.push b' x).fp e ++ post)) ∧ FpOk S₀ (pre ++ ((a.push b' x).fp e ++ post)) := by
  subst hn
  obtain ⟨b, es⟩ := a
  have hfp : (AccL.push ⟨b, es⟩ b' x).fp e = [(b', .tip e 1 (es.length + 1))] := by
    unfold AccL.fp AccL.push
    cases es with
    | nil => simp
    | cons x xs => simp
  simp only [hfp, List.cons_append, List.nil_append]
  cases es with
  | nil =>
    have hS := h1 rfl
    simp only [AccL.fp, List.nil_append] at hS h
    subst hS
    exact ⟨ov_new_mid (ov_none h.nd hb).2, h.add hb _⟩
  | cons y ys =>
    have hS := h2 (by simp)
    simp only [AccL.fp, List.cons_append, List.nil_append] at hS h
    rw [ov_del_mid (h.new (b, .tip e 1 (y :: ys).length) (by simp)) h.nd] at hS
    subst hS
    exact ⟨ov_new_mid (ov_none h.drop.nd hb).2, h.drop.add hb _⟩
theorem aPart_cell {C : Cx} {t : TypeId} {cells : List AV} {off : Nat} {K : AV → Prop} {x : AV} (ha : (C.T t).agg = false) (hx : cells[off]? = some x) (h : K x) : aPart C t cells off K := by
  unfold aPart
  rw [ha]
  dsimp only
  have hd : cells.drop off = x :: cells.drop (off + 1) := by
    have hlt : off < cells.length := by
      rcases Nat.lt_or_ge off cells.length with h | h
      · exact h
      · rw [List.getElem?_eq_none h] at hx; cases hx
    rw [List.drop_eq_getElem_cons hlt]
    rw [List.getElem?_eq_getElem hlt] at hx
    cases hx; rfl
  rw [hd]
  simpa only [force_eq] using h
/-! ### Less said, cell by cell -/
theorem AV.le_refl : ∀ x, AV.le x x
  | .sl sh k es => by cases sh <;> simp [AV.le, Sh.mayNil]
  | .int _ _ => rfl
  | .bool _ => rfl
  | .str _ => rfl
  | .nilp => rfl
  | .ref _ _ => rfl
  | .imm _ => rfl
  | .nils => rfl
  | .arr _ _ _ _ => rfl
  | .ag _ => rfl
  | .tu _ => rfl
  | .nilf => rfl
  | .fn _ _ _ => rfl
  | .nili => rfl
  | .ifc _ _ => rfl
  | .nilm => rfl
  | .mp _ => rfl
  | .raw _ => rfl
  | .top => by simp [AV.le]
theorem leL_refl : ∀ xs, leL xs xs
  | [] => trivial
  | x :: xs => ⟨AV.le_refl x, leL_refl xs⟩
theorem AccL.nils_le : AV.le .nils AccL.empty.av := rfl
theorem Triple.lessW {P : Program} {C : Cx} {f : FuncId} {args : List AV} {S : St} {Q Q' : Out → St → Prop} (h : Triple P C f args S Q) (hq : ∀ o S', Q o S' → ∃ S'', Q' o S'' ∧ St.leW S'' S') : Triple P C f args S Q' :=
  ⟨fun w vs hY hg hr => (h.out w vs hY hg hr).mono fun e w' ⟨o, S', h1, h2, h3, h4⟩ => by
    obtain ⟨S'', k1, k2⟩ := hq o S' h4
    refine ⟨o, S'', ?_, h2.weakS k2, h3.trans (Adv.weakS k2 (Adv.refl _ _)), k1⟩
    cases o <;> cases e <;> first | exact h1.elim | skip
    · show Rel w' (rdOf S'') _ _
      rw [St.leW_rd k2]; exact h1
    · obtain ⟨v, rfl, hv⟩ := h1
      exact ⟨v, rfl, by rw [St.leW_rd k2]; exact hv⟩⟩
end Go.Proofs.YtcpdgnkhkdddhaaGreatDoor.Aw

set_option maxRecDepth 100000
set_option linter.unusedVariables false
set_option linter.unusedSimpArgs false
namespace Go.Proofs.YtcpdgnkhkdddhaaGreatDoor.Aw
open Go Go.RowKit
variable {G : Nat → Option (List AV)}

def OkW (ws : List ByteArray) : Prop := (∀ w ∈ ws, w.size ≤ 9000000) ∧ ws.length ≤ 9000000
def OkV (v : StepV) : Prop := v.ops.length ≤ 10 ∧ v.pieces.length ≤ 10 ∧ v.lits.length ≤ 10 ∧ v.ids.length ≤ 10
theorem OkW.suffix {a b : List ByteArray} (h : OkW b) (hs : a <:+ b) : OkW a := ⟨fun w hw => h.1 w (hs.mem hw), Nat.le_trans hs.length_le h.2⟩
theorem exactG_suffix : ∀ (l xs : List ByteArray), (exactG l xs).1 <:+ l
  | l, [] => by cases l <;> exact List.suffix_refl _
  | [], _ :: _ => List.suffix_refl _
  | w :: l, x :: xs => by
    unfold exactG
    split
    · exact (exactG_suffix l xs).trans (List.suffix_cons _ _)
    · exact List.suffix_cons _ _
theorem numG_suffix (low : Int) : ∀ l : List ByteArray, (numG low l).2.2 <:+ l
  | [] => List.suffix_refl _
  | w :: l => by
    simp only [numG]
    split <;> exact List.suffix_cons _ _
theorem pieceG_suffix : ∀ (l : List ByteArray) (p : List (ByteArray × Int)), (pieceG l p).2.2 <:+ l
  | [], p => List.suffix_refl _
  | [w], p => by
    unfold pieceG
    split
    · exact List.suffix_refl _
    · split <;> exact List.suffix_cons _ _
  | w :: x :: l, p => by
    unfold pieceG
    split
    · exact List.suffix_refl _
    · split
      · split
        · exact (List.suffix_cons _ _).trans (List.suffix_cons _ _)
        · exact (pieceG_suffix l _).trans ((List.suffix_cons _ _).trans (List.suffix_cons _ _))
      · exact List.suffix_cons _ _
theorem rowG_suffix (ws : List ByteArray) (v : StepV) : (rowG ws v).2.1 <:+ ws := by
  unfold rowG
  have h := pieceG_suffix ws v.pieces
  split
  · unfold boundG
    have h1 := (List.tail_suffix (pieceG ws v.pieces).2.2).trans h
    have h2 := (numG_suffix (-1) (pieceG ws v.pieces).2.2.tail).trans h1
    split
    · exact (exactG_suffix _ _).trans h2
    · exact h2
  · exact h
theorem rowG_ids (ws : List ByteArray) (v : StepV) : (rowG ws v).2.2.ids = v.ids := by
  unfold rowG boundG
  split
  · split <;> rfl
  · rfl
abbrev RetG := Int × List ByteArray × StepV
def fixG (k : Int) (xs ws : List ByteArray) (v : StepV) : RetG := ((exactG ws xs).2, (exactG ws xs).1, { v with kind := k })
def headWords : List ByteArray := [⟨#[112, 114, 111, 111, 102]⟩, ⟨#[118, 101, 114, 115, 105, 111, 110]⟩, ⟨#[50, 46, 48]⟩]
def outputWords : List ByteArray := [⟨#[78, 79, 78, 69]⟩]
def lastWords : List ByteArray := [⟨#[112, 115, 101, 117, 100, 111, 45, 66, 111, 111, 108, 101, 97, 110]⟩, ⟨#[112, 114, 111, 111, 102]⟩]
theorem head_ok {S₀ S : St} {rb : Nat} {ws : List ByteArray} {v : StepV} (h : Rdr S₀ S rb ws v) :
    Triple P (C G) 143 [.ref rb 0] S fun o S' => o = .ret (errAV (fixG 1 headWords ws v).1) ∧ Rdr S₀ S' rb (fixG 1 headWords ws v).2.1 (fixG 1 headWords ws v).2.2 := by
  obtain ⟨t, hat⟩ := h
  have hcs := hat.at_
  have hat2 := hat.set (v' := { v with kind := 1 }) (ws' := ws) rfl rfl rfl rfl
  refine triple_of_awp (hT G) hm Tryz.func143 rfl (by decide +kernel) rfl (by decide +kernel) (by show 1 ≤ _; decide +kernel) rfl ?_
  conv => whnf
  refine ⟨_, _, hcs, ?_⟩
  conv => whnf
  intro bb hbb
  have hat3 := hat2.more hbb (.tip 9 ((C G).T 9).size 3)
  conv => whnf
  refine Triple.use (exactly_ok rb ws _ headWords (by decide) _ hat3.at_) (by exact ⟨rfl, ⟨rfl, rfl⟩, trivial⟩) ?_
  rintro o S' ⟨rfl, rfl⟩
  have hat4 := hat3.words (ws' := (exactG ws headWords).1)
  unfold fixG
  by_cases he : (exactG ws headWords).2 = 0
  · simp only [errAV, if_pos he]
    conv => whnf
    exact ⟨_, _, ⟨rfl, t, hat4⟩, St.le_refl _, AV.leS_refl _ _ _⟩
  · simp only [errAV, if_neg he]
    conv => whnf
    exact ⟨_, _, ⟨rfl, t, hat4⟩, St.le_refl _, AV.leS_refl _ _ _⟩
theorem output_ok {S₀ S : St} {rb : Nat} {ws : List ByteArray} {v : StepV} (h : Rdr S₀ S rb ws v) :
    Triple P (C G) 152 [.ref rb 0] S fun o S' => o = .ret (errAV (fixG 8 outputWords ws v).1) ∧ Rdr S₀ S' rb (fixG 8 outputWords ws v).2.1 (fixG 8 outputWords ws v).2.2 := by
  obtain ⟨t, hat⟩ := h
  have hcs := hat.at_
  have hat2 := hat.set (v' := { v with kind := 8 }) (ws' := ws) rfl rfl rfl rfl
  refine triple_of_awp (hT G) hm Tryz.func152 rfl (by decide +kernel) rfl (by decide +kernel) (by show 1 ≤ _; decide +kernel) rfl ?_
  conv => whnf
  refine ⟨_, _, hcs, ?_⟩
  conv => whnf
  intro bb hbb
  have hat3 := hat2.more hbb (.tip 9 ((C G).T 9).size 1)
  conv => whnf
  refine Triple.use (exactly_ok rb ws _ outputWords (by decide) _ hat3.at_) (by exact ⟨rfl, ⟨rfl, rfl⟩, trivial⟩) ?_
  rintro o S' ⟨rfl, rfl⟩
  have hat4 := hat3.words (ws' := (exactG ws outputWords).1)
  unfold fixG
  by_cases he : (exactG ws outputWords).2 = 0
  · simp only [errAV, if_pos he]
    conv => whnf
    exact ⟨_, _, ⟨rfl, t, hat4⟩, St.le_refl _, AV.leS_refl _ _ _⟩
  · simp only [errAV, if_neg he]
    conv => whnf
    exact ⟨_, _, ⟨rfl, t, hat4⟩, St.le_refl _, AV.leS_refl _ _ _⟩
theorem last_ok {S₀ S : St} {rb : Nat} {ws : List ByteArray} {v : StepV} (h : Rdr S₀ S rb ws v) :
    Triple P (C G) 154 [.ref rb 0] S fun o S' => o = .ret (errAV (fixG 10 lastWords ws v).1) ∧ Rdr S₀ S' rb (fixG 10 lastWords ws v).2.1 (fixG 10 lastWords ws v).2.2 := by
  obtain ⟨t, hat⟩ := h
  have hcs := hat.at_
  have hat2 := hat.set (v' := { v with kind := 10 }) (ws' := ws) rfl rfl rfl rfl
  refine triple_of_awp (hT G) hm Tryz.func154 rfl (by decide +kernel) rfl (by decide +kernel) (by show 1 ≤ _; decide +kernel) rfl ?_
  conv => whnf
  refine ⟨_, _, hcs, ?_⟩
  conv => whnf
  intro bb hbb
  have hat3 := hat2.more hbb (.tip 9 ((C G).T 9).size 2)
  conv => whnf
  refine Triple.use (exactly_ok rb ws _ lastWords (by decide) _ hat3.at_) (by exact ⟨rfl, ⟨rfl, rfl⟩, trivial⟩) ?_
  rintro o S' ⟨rfl, rfl⟩
  have hat4 := hat3.words (ws' := (exactG ws lastWords).1)
  unfold fixG
  by_cases he : (exactG ws lastWords).2 = 0
  · simp only [errAV, if_pos he]
    conv => whnf
    exact ⟨_, _, ⟨rfl, t, hat4⟩, St.le_refl _, AV.leS_refl _ _ _⟩
  · simp only [errAV, if_neg he]
    conv => whnf
    exact ⟨_, _, ⟨rfl, t, hat4⟩, St.le_refl _, AV.leS_refl _ _ _⟩
def noteG (ws : List ByteArray) (v : StepV) : RetG := (0, [], { v with kind := 7 })
theorem note_ok {S₀ S : St} {rb : Nat} {ws : List ByteArray} {v : StepV} (h : Rdr S₀ S rb ws v) :
    Triple P (C G) 151 [.ref rb 0] S fun o S' => o = .ret (errAV (noteG ws v).1) ∧ Rdr S₀ S' rb (noteG ws v).2.1 (noteG ws v).2.2 := by
  obtain ⟨t, hat⟩ := h
  have hcs := hat.at_
  have hn : Triple P (C G) 151 [.ref rb 0] S fun o S' => o = .ret .nili ∧ S' = S.upd rb (.obj 208 (.nils :: stepC { v with kind := 7 } t)) := by
    refine triple_of_awp (hT G) hm Tryz.func151 rfl (by decide +kernel) rfl (by decide +kernel) (by show 1 ≤ _; decide +kernel) rfl ?_
    conv => whnf
    refine ⟨_, _, hcs, ?_⟩
    conv => whnf
    refine ⟨_, _, St.upd_same _ _ _, ?_⟩
    conv => whnf
    refine ⟨_, _, ⟨rfl, rfl⟩, ?_, AV.leS_refl _ _ _⟩
    rw [St.upd_upd]
    exact St.le_refl _
  refine Triple.lessW hn ?_
  rintro o S' ⟨rfl, rfl⟩
  refine ⟨_, ⟨rfl, t, hat.set (v' := { v with kind := 7 }) (ws' := []) rfl rfl rfl rfl⟩, ?_⟩
  have := St.leW_upd (cs' := .sl .any 1 (rowsS []) :: stepC { v with kind := 7 } t) (St.upd_same S rb (.obj 208 (.nils :: stepC { v with kind := 7 } t))) ⟨rfl, leL_refl _⟩
  rwa [St.upd_upd] at this
end Go.Proofs.YtcpdgnkhkdddhaaGreatDoor.Aw

set_option maxRecDepth 100000
set_option linter.unusedVariables false
set_option linter.unusedSimpArgs false
namespace Go.Proofs.YtcpdgnkhkdddhaaGreatDoor.Aw
open Go Go.RowKit
variable {G : Nat → Option (List AV)}

theorem byteAt_N (s : ByteArray) (i : Nat) : byteAt s i = ((byN s i : Nat) : Int) := rfl
theorem Words_ok (s : ByteArray) (hs : s.size ≤ 9000000) (S : St) : Triple P (C G) 84 [.str s] S fun o S' => o = .ret (.sl .any 1 (rowsS (wordsL s))) ∧ S' = S := by
  rw [← refWords_eq]
  obtain ⟨W, hW⟩ : ∃ W, W = refWordsGo s 0 0 [] := ⟨_, rfl⟩
  rw [← hW]
  refine triple_of_awp (hT G) hm Tryz.func84 rfl (by decide +kernel) rfl (by decide +kernel) (by show 1 ≤ _; decide +kernel) rfl ?_
  refine awp_seq2 fun K hK hQ => ?_
  conv => whnf
  refine hK _ _ ?_
  clear hK hQ K
  refine awp_seq2 fun K hK hQ => ?_
  conv => whnf
  refine hK _ _ ?_
  clear hK hQ K
  refine awp_seq2 fun K hK hQ => ?_
  conv => whnf
  refine hK _ _ ?_
  clear hK hQ K
  refine awp_seq2 fun K hK hQ => ?_
  conv => whnf
  refine ⟨⟨Nat × Nat × List ByteArray × Nat, fun x => [(0, .str s), (3, .sl (.acc x.2.2.2) 1 (rowsS x.2.2.1)), (4, .int .i64 (x.2.1 : Int)), (5, .int .i64 (x.1 : Int))],
    fun x S1 => AccOk S S1 9 1 x.2.2.2 x.2.2.1.length ∧ x.1 ≤ s.size + 1 ∧ x.2.1 ≤ x.1 ∧ x.2.2.1.length ≤ x.1 ∧ refWordsGo s x.1 x.2.1 x.2.2.1 = W, fun x => s.size + 1 - x.1⟩,
    ⟨(0, 0, [], 0), ⟨rfl, rfl, rfl, rfl, trivial⟩, _, St.leW_refl _, AccOk.init _ _ _ _, by dsimp only; omega, Nat.le_refl _, Nat.le_refl _, hW.symm⟩, ?_⟩
  rintro ⟨i, fr, acc, ba⟩ S1 ⟨g1, g2, g3, g4, g5⟩
  dsimp only at g1 g2 g3 g4 g5
  conv => whnf
  refine split_of (fun hlt => ?_) (fun hlt => ?_)
  · have hlt : i ≤ s.size := by have := of_decide_eq_true hlt; omega
    have w1 : IntKind.i64.wrap ((i : Int) + 1) = ((i + 1 : Nat) : Int) := wrap_nat (by omega)
    have hby : byteAt s (i : Int).toNat = ((byN s i : Nat) : Int) := rfl
    unfold refWordsGo at g5
    rw [dif_pos hlt] at g5
    by_cases he : i = s.size
    · rw [if_pos (.inl he)] at g5
      conv => whnf
      rw [show ((i : Int) == (s.size : Int)) = true from by rw [he]; exact beq_self_eq_true _]
      conv => whnf
      by_cases hf : fr < i
      · rw [if_pos hf] at g5
        rw [show decide ((i : Int) > (fr : Int)) = true from decide_eq_true (by omega)]
        conv => whnf
        refine ⟨⟨by first | omega | (dsimp only; omega), by first | omega | (dsimp only; omega), by first | omega | (dsimp only; omega)⟩, ?_⟩
        conv => whnf
        intro bb hbb
        have g1' := g1.other hbb (.tip 9 1 1)
        conv => whnf
        refine ⟨⟨fun hl => ?_, ?_⟩, fun S4 c1 c2 b' c3 => ?_⟩
        · have : 0 < acc.length := by cases acc with
            | nil => exact absurd rfl hl
            | cons _ _ => simp
          rw [rowsS_len]; exact g1'.tip this
        · show ((rowsS acc).length + 1) * 16 ≤ _
          rw [rowsS_len]; omega
        have g5' := g1'.push (m := acc.length + 1) (by rw [rowsS_len]) c1 c2 c3 rfl
        rw [rowsS_len]
        conv => whnf
        exact ⟨(i + 1, i + 1, acc ++ [s.extract fr i], b'), ⟨rfl, congrArg (AV.sl (.acc b') 1) (by simp [rowsS]), congrArg _ w1, congrArg _ w1, trivial⟩, ⟨_, St.leW_refl _, by rw [show (acc ++ [s.extract fr i]).length = acc.length + 1 by simp]; exact g5', by dsimp only; omega, Nat.le_refl _, by simp <;> omega, g5⟩, by show s.size + 1 - (i + 1) < s.size + 1 - i; omega⟩
      · rw [if_neg hf] at g5
        rw [show decide ((i : Int) > (fr : Int)) = false from decide_eq_false (by omega)]
        conv => whnf
        exact ⟨(i + 1, i + 1, acc, ba), ⟨rfl, rfl, congrArg _ w1, congrArg _ w1, trivial⟩, ⟨_, St.leW_refl _, g1, by dsimp only; omega, Nat.le_refl _, by dsimp only; omega, g5⟩, by show s.size + 1 - (i + 1) < s.size + 1 - i; omega⟩
    · conv => whnf
      rw [show ((i : Int) == (s.size : Int)) = false from beq_false_of_ne (by omega)]
      conv => whnf
      refine ⟨⟨by omega, by dsimp only; omega⟩, ?_⟩
      conv => whnf
      rw [hby]
      by_cases h32 : byN s i = 32
      · rw [if_pos (.inr (.inl h32))] at g5
        rw [show (((byN s i : Nat) : Int) == 32) = true from by rw [h32]; rfl]
        conv => whnf
        by_cases hf : fr < i
        · rw [if_pos hf] at g5
          rw [show decide ((i : Int) > (fr : Int)) = true from decide_eq_true (by omega)]
          conv => whnf
          refine ⟨⟨by first | omega | (dsimp only; omega), by first | omega | (dsimp only; omega), by first | omega | (dsimp only; omega)⟩, ?_⟩
          conv => whnf
          intro bb hbb
          have g1' := g1.other hbb (.tip 9 1 1)
          conv => whnf
          refine ⟨⟨fun hl => ?_, ?_⟩, fun S4 c1 c2 b' c3 => ?_⟩
          · have : 0 < acc.length := by cases acc with
              | nil => exact absurd rfl hl
              | cons _ _ => simp
            rw [rowsS_len]; exact g1'.tip this
          · show ((rowsS acc).length + 1) * 16 ≤ _
            rw [rowsS_len]; omega
          have g5' := g1'.push (m := acc.length + 1) (by rw [rowsS_len]) c1 c2 c3 rfl
          rw [rowsS_len]
          conv => whnf
          exact ⟨(i + 1, i + 1, acc ++ [s.extract fr i], b'), ⟨rfl, congrArg (AV.sl (.acc b') 1) (by simp [rowsS]), congrArg _ w1, congrArg _ w1, trivial⟩, ⟨_, St.leW_refl _, by rw [show (acc ++ [s.extract fr i]).length = acc.length + 1 by simp]; exact g5', by dsimp only; omega, Nat.le_refl _, by simp <;> omega, g5⟩, by show s.size + 1 - (i + 1) < s.size + 1 - i; omega⟩
        · rw [if_neg hf] at g5
          rw [show decide ((i : Int) > (fr : Int)) = false from decide_eq_false (by omega)]
          conv => whnf
          exact ⟨(i + 1, i + 1, acc, ba), ⟨rfl, rfl, congrArg _ w1, congrArg _ w1, trivial⟩, ⟨_, St.leW_refl _, g1, by dsimp only; omega, Nat.le_refl _, by dsimp only; omega, g5⟩, by show s.size + 1 - (i + 1) < s.size + 1 - i; omega⟩
      · rw [show (((byN s i : Nat) : Int) == 32) = false from beq_false_of_ne (by omega)]
        conv => whnf
        refine ⟨⟨by omega, by dsimp only; omega⟩, ?_⟩
        conv => whnf
        rw [hby]
        by_cases h9 : byN s i = 9
        · rw [if_pos (.inr (.inr h9))] at g5
          rw [show (((byN s i : Nat) : Int) == 9) = true from by rw [h9]; rfl]
          conv => whnf
          by_cases hf : fr < i
          · rw [if_pos hf] at g5
            rw [show decide ((i : Int) > (fr : Int)) = true from decide_eq_true (by omega)]
            conv => whnf
            refine ⟨⟨by first | omega | (dsimp only; omega), by first | omega | (dsimp only; omega), by first | omega | (dsimp only; omega)⟩, ?_⟩
            conv => whnf
            intro bb hbb
            have g1' := g1.other hbb (.tip 9 1 1)
            conv => whnf
            refine ⟨⟨fun hl => ?_, ?_⟩, fun S4 c1 c2 b' c3 => ?_⟩
            · have : 0 < acc.length := by cases acc with
                | nil => exact absurd rfl hl
                | cons _ _ => simp
              rw [rowsS_len]; exact g1'.tip this
            · show ((rowsS acc).length + 1) * 16 ≤ _
              rw [rowsS_len]; omega
            have g5' := g1'.push (m := acc.length + 1) (by rw [rowsS_len]) c1 c2 c3 rfl
            rw [rowsS_len]
            conv => whnf
            exact ⟨(i + 1, i + 1, acc ++ [s.extract fr i], b'), ⟨rfl, congrArg (AV.sl (.acc b') 1) (by simp [rowsS]), congrArg _ w1, congrArg _ w1, trivial⟩, ⟨_, St.leW_refl _, by rw [show (acc ++ [s.extract fr i]).length = acc.length + 1 by simp]; exact g5', by dsimp only; omega, Nat.le_refl _, by simp <;> omega, g5⟩, by show s.size + 1 - (i + 1) < s.size + 1 - i; omega⟩
          · rw [if_neg hf] at g5
            rw [show decide ((i : Int) > (fr : Int)) = false from decide_eq_false (by omega)]
            conv => whnf
            exact ⟨(i + 1, i + 1, acc, ba), ⟨rfl, rfl, congrArg _ w1, congrArg _ w1, trivial⟩, ⟨_, St.leW_refl _, g1, by dsimp only; omega, Nat.le_refl _, by dsimp only; omega, g5⟩, by show s.size + 1 - (i + 1) < s.size + 1 - i; omega⟩
        · rw [if_neg (by rintro (h | h | h); exact he h; exact h32 h; exact h9 h)] at g5
          rw [show (((byN s i : Nat) : Int) == 9) = false from beq_false_of_ne (by omega)]
          conv => whnf
          exact ⟨(i + 1, fr, acc, ba), ⟨rfl, rfl, rfl, congrArg _ w1, trivial⟩, ⟨_, St.leW_refl _, g1, by dsimp only; omega, by dsimp only; omega, by dsimp only; omega, g5⟩, by show s.size + 1 - (i + 1) < s.size + 1 - i; omega⟩
  · have hlt : ¬ i ≤ s.size := by have := of_decide_eq_false hlt; omega
    unfold refWordsGo at g5
    rw [dif_neg hlt] at g5
    subst g5
    conv => whnf
    refine hK _ _ ?_
    clear hK hQ K
    conv => whnf
    exact ⟨_, _, ⟨rfl, rfl⟩, g1.le, ⟨rfl, rfl⟩⟩
end Go.Proofs.YtcpdgnkhkdddhaaGreatDoor.Aw

set_option maxRecDepth 100000
set_option linter.unusedVariables false
set_option linter.unusedSimpArgs false
namespace Go.Proofs.YtcpdgnkhkdddhaaGreatDoor.Aw
open Go Go.RowKit

section
variable {P : Program} {C : Cx} {ops : List Oper} {K : Env → St → Prop} {Qp : AV → St → Prop}
theorem aOps_append (l2 : List Oper) : ∀ (l1 : List Oper) (env : Env) (S : St), aOps P C ops (l1 ++ l2) env S K Qp = aOps P C ops l1 env S (fun e s => aOps P C ops l2 e s K Qp) Qp
  | [], env, S => rfl
  | o :: r, env, S => by simp only [List.cons_append, aOps, aOps_append l2 r]
theorem aOps_cut (n : Nat) {l : List Oper} {env : Env} {S : St} (h : ∀ K', (∀ env' S', aOps P C ops (l.drop n) env' S' K Qp → K' env' S') → aOps P C ops (l.take n) env S K' Qp) : aOps P C ops l env S K Qp := by
  rw [← List.take_append_drop n l, aOps_append]; exact h _ (fun _ _ h => h)
theorem awp_region {id : Nat} {os : Array Oper} {env : Env} {S : St} {Q : AExit → Env → St → Prop} (h : aOps P C os.toList os.toList env S (fun e s => Q .normal e s) (fun x s => Q (.panic x) [] s)) : awp P C (.region id os false) env S Q := by
  unfold awp
  exact h
end
end Go.Proofs.YtcpdgnkhkdddhaaGreatDoor.Aw

set_option maxRecDepth 100000
set_option linter.unusedVariables false
set_option linter.unusedSimpArgs false
namespace Go.Proofs.YtcpdgnkhkdddhaaGreatDoor.Aw
open Go Go.RowKit
variable {G : Nat → Option (List AV)}

/-- A reader: what is left, the fault's number. -/
def rdO (ws : List ByteArray) (e : Int) : Own := .obj 156 [.sl .any 1 (rowsS ws), .int .i64 e]
theorem rfail_ok {S : St} {rb : Nat} {ws : List ByteArray} {e : Int} (h : S rb = some (rdO ws e)) (x : Int) : Triple P (C G) 110 [.ref rb 0, .int .i64 x] S fun o S' => o = .ret (.tu []) ∧ S' = S.upd rb (rdO ws (if e = 0 then x else e)) := by
  unfold rdO at *
  by_cases he : e = 0
  · subst he
    rw [if_pos rfl]
    refine triple_of_awp (hT G) hm Tryz.func110 rfl (by decide +kernel) rfl (by decide +kernel) (by show 2 ≤ _; decide +kernel) rfl ?_
    conv => whnf
    refine ⟨_, _, h, ?_⟩
    conv => whnf
    refine ⟨_, _, h, ?_⟩
    conv => whnf
    exact ⟨_, _, ⟨rfl, rfl⟩, St.le_refl _, AV.leS_refl _ _ _⟩
  · rw [if_neg he]
    refine triple_of_awp (hT G) hm Tryz.func110 rfl (by decide +kernel) rfl (by decide +kernel) (by show 2 ≤ _; decide +kernel) rfl ?_
    conv => whnf
    refine ⟨_, _, h, ?_⟩
    conv => whnf
    rw [show (e == 0) = false from beq_false_of_ne he]
    conv => whnf
    exact ⟨_, _, ⟨rfl, by rw [St.upd_id h]⟩, St.le_refl _, AV.leS_refl _ _ _⟩
def takeR (ws : List ByteArray) (e : Int) : ByteArray × Bool × List ByteArray × Int :=
  if e = 0 then (match ws with | [] => (⟨#[]⟩, false, [], 82) | w :: l => (w, true, l, 0)) else (⟨#[]⟩, false, ws, e)
theorem rtake_ok1 {S : St} {rb : Nat} {ws : List ByteArray} {e : Int} (h : S rb = some (rdO ws e)) : Triple P (C G) 85 [.ref rb 0] S fun o S' => o = .ret (.tu [.str (takeR ws e).1, .bool (takeR ws e).2.1]) ∧ S' = S.upd rb (rdO (takeR ws e).2.2.1 (takeR ws e).2.2.2) := by
  have hf := rfail_ok (G := G) h 82
  unfold takeR
  unfold rdO at *
  by_cases he : e = 0
  · subst he
    rw [if_pos rfl] at hf ⊢
    cases ws with
    | nil =>
      refine triple_of_awp (hT G) hm Tryz.func85 rfl (by decide +kernel) rfl (by decide +kernel) (by show 1 ≤ _; decide +kernel) rfl ?_
      conv => whnf
      refine ⟨_, _, h, ?_⟩
      conv => whnf
      refine ⟨_, _, h, ?_⟩
      conv => whnf
      intro _
      conv => whnf
      refine hf.mono ?_
      rintro o T ⟨rfl, rfl⟩
      conv => whnf
      exact ⟨_, _, ⟨rfl, rfl⟩, St.le_refl _, AV.leS_refl _ _ _⟩
    | cons w l =>
      have e1 : List.drop (1 : Int).toNat (List.take (((rowsS (w :: l)).length : Nat) : Int).toNat (rowsS (w :: l))) = rowsS l := by rw [Int.toNat_natCast, List.take_length]; rfl
      have ga : (rowsS (w :: l))[(0 : Int).toNat]? = some [.str w] := rfl
      have hpos : ((rowsS (w :: l)).length : Int) ≠ 0 := by rw [rowsS_len]; simp <;> omega
      have hge : (1 : Int) ≤ ((rowsS (w :: l)).length : Int) := by rw [rowsS_len]; simp <;> omega
      generalize rowsS (w :: l) = rr at *
      refine triple_of_awp (hT G) hm Tryz.func85 rfl (by decide +kernel) rfl (by decide +kernel) (by show 1 ≤ _; decide +kernel) rfl ?_
      conv => whnf
      refine ⟨_, _, h, ?_⟩
      conv => whnf
      refine ⟨_, _, h, ?_⟩
      conv => whnf
      intro _
      conv => whnf
      rw [show ((rr.length : Int) == 0) = false from beq_false_of_ne hpos]
      conv => whnf
      refine ⟨_, _, h, ?_⟩
      conv => whnf
      refine ⟨_, ⟨by decide, ga⟩, ?_⟩
      conv => whnf
      refine ⟨_, _, h, ?_⟩
      conv => whnf
      refine ⟨⟨by decide, hge, by omega⟩, ?_⟩
      conv => whnf
      refine ⟨_, _, h, ?_⟩
      conv => whnf
      rw [e1]
      exact ⟨_, _, ⟨rfl, rfl⟩, St.le_refl _, AV.leS_refl _ _ _⟩
  · rw [if_neg he]
    refine triple_of_awp (hT G) hm Tryz.func85 rfl (by decide +kernel) rfl (by decide +kernel) (by show 1 ≤ _; decide +kernel) rfl ?_
    conv => whnf
    refine ⟨_, _, h, ?_⟩
    conv => whnf
    rw [show (e != 0) = true from by simpa using he]
    conv => whnf
    exact ⟨_, _, ⟨rfl, by rw [St.upd_id h]⟩, St.le_refl _, AV.leS_refl _ _ _⟩
def moreR (ws : List ByteArray) (e : Int) : Bool := decide (e = 0) && decide (ws ≠ [])
theorem more_ok {S : St} {rb : Nat} {ws : List ByteArray} {e : Int} (h : S rb = some (rdO ws e)) : Triple P (C G) 115 [.ref rb 0] S fun o S' => o = .ret (.bool (moreR ws e)) ∧ S' = S := by
  unfold moreR
  unfold rdO at h
  by_cases he : e = 0
  · subst he
    refine triple_of_awp (hT G) hm Tryz.func115 rfl (by decide +kernel) rfl (by decide +kernel) (by show 1 ≤ _; decide +kernel) rfl ?_
    conv => whnf
    refine ⟨_, _, h, ?_⟩
    conv => whnf
    refine ⟨_, _, h, ?_⟩
    conv => whnf
    intro _
    conv => whnf
    refine ⟨_, _, ⟨rfl, rfl⟩, St.le_refl _, ?_⟩
    rw [show decide (((rowsS ws).length : Int) > 0) = (decide ((0 : Int) = 0) && decide (ws ≠ [])) from by
      rw [rowsS_len, decide_eq_true (rfl : (0 : Int) = 0), Bool.true_and, decide_eq_decide]
      cases ws <;> simp <;> omega]
    exact AV.leS_refl _ _ _
  · rw [decide_eq_false he]
    refine triple_of_awp (hT G) hm Tryz.func115 rfl (by decide +kernel) rfl (by decide +kernel) (by show 1 ≤ _; decide +kernel) rfl ?_
    conv => whnf
    refine ⟨_, _, h, ?_⟩
    conv => whnf
    rw [show (e == 0) = false from beq_false_of_ne he]
    conv => whnf
    exact ⟨_, _, ⟨rfl, rfl⟩, St.le_refl _, AV.leS_refl _ _ _⟩
def isR (ws : List ByteArray) (e : Int) (w : ByteArray) : Bool := decide (e = 0) && decide (ws.head? = some w)
theorem is_ok {S : St} {rb : Nat} {ws : List ByteArray} {e : Int} (h : S rb = some (rdO ws e)) (w : ByteArray) : Triple P (C G) 138 [.ref rb 0, .str w] S fun o S' => o = .ret (.bool (isR ws e w)) ∧ S' = S := by
  unfold isR
  unfold rdO at h
  by_cases he : e = 0
  · subst he
    cases ws with
    | nil =>
      refine triple_of_awp (hT G) hm Tryz.func138 rfl (by decide +kernel) rfl (by decide +kernel) (by show 2 ≤ _; decide +kernel) rfl ?_
      refine awp_seq2 fun K hK hQ => ?_
      conv => whnf
      refine hK _ _ ?_
      clear hK hQ K
      refine awp_seq2 fun K hK hQ => ?_
      refine awp_region ?_
      refine aOps_cut 6 fun K' hK' => ?_
      conv => whnf
      refine ⟨_, _, h, ?_⟩
      conv => whnf
      refine hK' _ _ ?_
      clear hK' K'
      refine aOps_cut 8 fun K' hK' => ?_
      conv => whnf
      refine ⟨_, _, h, ?_⟩
      conv => whnf
      intro _
      conv => whnf
      refine hK' _ _ ?_
      clear hK' K'
      conv => whnf
      refine hK _ _ ?_
      clear hK hQ K
      conv => whnf
      exact ⟨_, _, ⟨rfl, rfl⟩, St.le_refl _, AV.leS_refl _ _ _⟩
    | cons x l =>
      have ga : (rowsS (x :: l))[(0 : Int).toNat]? = some [.str x] := rfl
      have hpos : ((rowsS (x :: l)).length : Int) > 0 := by rw [rowsS_len]; simp <;> omega
      generalize rowsS (x :: l) = rr at *
      refine triple_of_awp (hT G) hm Tryz.func138 rfl (by decide +kernel) rfl (by decide +kernel) (by show 2 ≤ _; decide +kernel) rfl ?_
      refine awp_seq2 fun K hK hQ => ?_
      conv => whnf
      refine hK _ _ ?_
      clear hK hQ K
      refine awp_seq2 fun K hK hQ => ?_
      refine awp_region ?_
      refine aOps_cut 6 fun K' hK' => ?_
      conv => whnf
      refine ⟨_, _, h, ?_⟩
      conv => whnf
      refine hK' _ _ ?_
      clear hK' K'
      refine aOps_cut 8 fun K' hK' => ?_
      conv => whnf
      refine ⟨_, _, h, ?_⟩
      conv => whnf
      intro _
      conv => whnf
      rw [show decide ((rr.length : Int) > 0) = true from decide_eq_true hpos]
      refine hK' _ _ ?_
      clear hK' K'
      conv => whnf
      refine ⟨_, _, h, ?_⟩
      conv => whnf
      refine ⟨_, ⟨by decide, ga⟩, ?_⟩
      conv => whnf
      refine hK _ _ ?_
      clear hK hQ K
      conv => whnf
      refine ⟨_, _, ⟨rfl, rfl⟩, St.le_refl _, ?_⟩
      rw [show decide (x = w) = (decide ((0 : Int) = 0) && decide ((x :: l).head? = some w)) from by simp]
      exact AV.leS_refl _ _ _
  · rw [decide_eq_false he]
    refine triple_of_awp (hT G) hm Tryz.func138 rfl (by decide +kernel) rfl (by decide +kernel) (by show 2 ≤ _; decide +kernel) rfl ?_
    refine awp_seq2 fun K hK hQ => ?_
    conv => whnf
    refine hK _ _ ?_
    clear hK hQ K
    refine awp_seq2 fun K hK hQ => ?_
    refine awp_region ?_
    refine aOps_cut 6 fun K' hK' => ?_
    conv => whnf
    refine ⟨_, _, h, ?_⟩
    conv => whnf
    rw [show (e == 0) = false from beq_false_of_ne he]
    refine hK' _ _ ?_
    clear hK' K'
    refine aOps_cut 8 fun K' hK' => ?_
    conv => whnf
    refine hK' _ _ ?_
    clear hK' K'
    conv => whnf
    refine hK _ _ ?_
    clear hK hQ K
    conv => whnf
    exact ⟨_, _, ⟨rfl, rfl⟩, St.le_refl _, AV.leS_refl _ _ _⟩
end Go.Proofs.YtcpdgnkhkdddhaaGreatDoor.Aw

set_option maxRecDepth 100000
set_option linter.unusedVariables false
set_option linter.unusedSimpArgs false
namespace Go.Proofs.YtcpdgnkhkdddhaaGreatDoor.Aw
open Go Go.RowKit
variable {G : Nat → Option (List AV)}

def oneR (w : ByteArray) (ws : List ByteArray) (e : Int) : List ByteArray × Int :=
  if e = 0 then (match ws with | [] => ([], 82) | x :: l => (l, if x = w then 0 else 80)) else (ws, e)
theorem one_ok {S : St} {rb : Nat} {ws : List ByteArray} {e : Int} (h : S rb = some (rdO ws e)) (w : ByteArray) : Triple P (C G) 117 [.ref rb 0, .str w] S fun o S' => o = .ret (.tu []) ∧ S' = S.upd rb (rdO (oneR w ws e).1 (oneR w ws e).2) := by
  have ht := rtake_ok1 (G := G) h
  unfold oneR
  unfold takeR at ht
  by_cases he : e = 0
  · subst he
    rw [if_pos rfl] at ht ⊢
    cases ws with
    | nil =>
      dsimp only at ht ⊢
      refine triple_of_awp (hT G) hm Tryz.func117 rfl (by decide +kernel) rfl (by decide +kernel) (by show 2 ≤ _; decide +kernel) rfl ?_
      conv => whnf
      refine ht.mono ?_
      rintro o T ⟨rfl, rfl⟩
      conv => whnf
      exact ⟨_, _, ⟨rfl, rfl⟩, St.le_refl _, AV.leS_refl _ _ _⟩
    | cons x l =>
      dsimp only at ht ⊢
      have hf := rfail_ok (G := G) (S := S.upd rb (rdO l 0)) (rb := rb) (ws := l) (e := 0) (St.upd_same _ _ _) 80
      rw [if_pos rfl, St.upd_upd] at hf
      by_cases hx : x = w
      · rw [if_pos hx]
        refine triple_of_awp (hT G) hm Tryz.func117 rfl (by decide +kernel) rfl (by decide +kernel) (by show 2 ≤ _; decide +kernel) rfl ?_
        conv => whnf
        refine ht.mono ?_
        rintro o T ⟨rfl, rfl⟩
        conv => whnf
        rw [show decide (x = w) = true from decide_eq_true hx]
        conv => whnf
        exact ⟨_, _, ⟨rfl, rfl⟩, St.le_refl _, AV.leS_refl _ _ _⟩
      · rw [if_neg hx]
        refine triple_of_awp (hT G) hm Tryz.func117 rfl (by decide +kernel) rfl (by decide +kernel) (by show 2 ≤ _; decide +kernel) rfl ?_
        conv => whnf
        refine ht.mono ?_
        rintro o T ⟨rfl, rfl⟩
        conv => whnf
        rw [show decide (x = w) = false from decide_eq_false hx]
        conv => whnf
        refine hf.mono ?_
        rintro o T ⟨rfl, rfl⟩
        conv => whnf
        exact ⟨_, _, ⟨rfl, rfl⟩, St.le_refl _, AV.leS_refl _ _ _⟩
  · rw [if_neg he] at ht ⊢
    dsimp only at ht ⊢
    refine triple_of_awp (hT G) hm Tryz.func117 rfl (by decide +kernel) rfl (by decide +kernel) (by show 2 ≤ _; decide +kernel) rfl ?_
    conv => whnf
    refine ht.mono ?_
    rintro o T ⟨rfl, rfl⟩
    conv => whnf
    exact ⟨_, _, ⟨rfl, rfl⟩, St.le_refl _, AV.leS_refl _ _ _⟩
def numR (low : Int) (ws : List ByteArray) (e : Int) : ByteArray × Int × List ByteArray := if e = 0 then numG low ws else (⟨#[]⟩, e, ws)
theorem number1_ok {S : St} {rb : Nat} {ws : List ByteArray} {e : Int} (h : S rb = some (rdO ws e)) (hw : ∀ w ∈ ws, w.size ≤ 9000000) (low : Int) (h0 : -9223372036854775808 ≤ low) (h1 : low ≤ 9223372036854775807) :
    Triple P (C G) 112 [.ref rb 0, .int .i64 low] S fun o S' => o = .ret (.str (numR low ws e).1) ∧ S' = S.upd rb (rdO (numR low ws e).2.2 (numR low ws e).2.1) := by
  have ht := rtake_ok1 (G := G) h
  unfold numR
  unfold takeR at ht
  by_cases he : e = 0
  · subst he
    rw [if_pos rfl] at ht ⊢
    cases ws with
    | nil =>
      dsimp only [numG] at ht ⊢
      refine triple_of_awp (hT G) hm Tryz.func112 rfl (by decide +kernel) rfl (by decide +kernel) (by show 2 ≤ _; decide +kernel) rfl ?_
      conv => whnf
      refine ht.mono ?_
      rintro o T ⟨rfl, rfl⟩
      conv => whnf
      exact ⟨_, _, ⟨rfl, rfl⟩, St.le_refl _, AV.leS_refl _ _ _⟩
    | cons x l =>
      dsimp only [numG] at ht ⊢
      have hn := fun S => isNumber1_ok (G := G) x (hw x (by simp)) low h0 h1 S
      have hf := rfail_ok (G := G) (S := S.upd rb (rdO l 0)) (rb := rb) (ws := l) (e := 0) (St.upd_same _ _ _) 81
      rw [if_pos rfl, St.upd_upd] at hf
      cases hx : isNumV x.data.toList low with
      | true =>
        rw [hx] at hn
        rw [if_pos rfl]
        refine triple_of_awp (hT G) hm Tryz.func112 rfl (by decide +kernel) rfl (by decide +kernel) (by show 2 ≤ _; decide +kernel) rfl ?_
        conv => whnf
        refine ht.mono ?_
        rintro o T ⟨rfl, rfl⟩
        conv => whnf
        refine (hn _).mono ?_
        rintro o T ⟨rfl, rfl⟩
        conv => whnf
        exact ⟨_, _, ⟨rfl, rfl⟩, St.le_refl _, AV.leS_refl _ _ _⟩
      | false =>
        rw [hx] at hn
        rw [if_neg (by decide)]
        refine triple_of_awp (hT G) hm Tryz.func112 rfl (by decide +kernel) rfl (by decide +kernel) (by show 2 ≤ _; decide +kernel) rfl ?_
        conv => whnf
        refine ht.mono ?_
        rintro o T ⟨rfl, rfl⟩
        conv => whnf
        refine (hn _).mono ?_
        rintro o T ⟨rfl, rfl⟩
        conv => whnf
        refine hf.mono ?_
        rintro o T ⟨rfl, rfl⟩
        conv => whnf
        exact ⟨_, _, ⟨rfl, rfl⟩, St.le_refl _, AV.leS_refl _ _ _⟩
  · rw [if_neg he] at ht ⊢
    dsimp only at ht ⊢
    refine triple_of_awp (hT G) hm Tryz.func112 rfl (by decide +kernel) rfl (by decide +kernel) (by show 2 ≤ _; decide +kernel) rfl ?_
    conv => whnf
    refine ht.mono ?_
    rintro o T ⟨rfl, rfl⟩
    conv => whnf
    exact ⟨_, _, ⟨rfl, rfl⟩, St.le_refl _, AV.leS_refl _ _ _⟩
def litR (ws : List ByteArray) (e : Int) : Int × Int × List ByteArray := if e = 0 then rlitG ws else (0, e, ws)
theorem lit1_ok {S : St} {rb : Nat} {ws : List ByteArray} {e : Int} (h : S rb = some (rdO ws e)) (hw : ∀ w ∈ ws, w.size ≤ 9000000) :
    Triple P (C G) 116 [.ref rb 0] S fun o S' => o = .ret (.int .i64 (litR ws e).1) ∧ S' = S.upd rb (rdO (litR ws e).2.2 (litR ws e).2.1) := by
  have ht := rtake_ok1 (G := G) h
  unfold litR
  unfold takeR at ht
  by_cases he : e = 0
  · subst he
    rw [if_pos rfl] at ht ⊢
    cases ws with
    | nil =>
      dsimp only [rlitG] at ht ⊢
      refine triple_of_awp (hT G) hm Tryz.func116 rfl (by decide +kernel) rfl (by decide +kernel) (by show 1 ≤ _; decide +kernel) rfl ?_
      conv => whnf
      refine ht.mono ?_
      rintro o T ⟨rfl, rfl⟩
      conv => whnf
      exact ⟨_, _, ⟨rfl, rfl⟩, St.le_refl _, AV.leS_refl _ _ _⟩
    | cons x l =>
      dsimp only [rlitG] at ht ⊢
      have hn := fun S => Lit_ok (G := G) x (hw x (by simp)) S
      have hf := rfail_ok (G := G) (S := S.upd rb (rdO l 0)) (rb := rb) (ws := l) (e := 0) (St.upd_same _ _ _) 81
      rw [if_pos rfl, St.upd_upd] at hf
      generalize litV x.data.toList = z at *
      by_cases hz : z = 0
      · rw [if_pos hz]
        subst hz
        refine triple_of_awp (hT G) hm Tryz.func116 rfl (by decide +kernel) rfl (by decide +kernel) (by show 1 ≤ _; decide +kernel) rfl ?_
        conv => whnf
        refine ht.mono ?_
        rintro o T ⟨rfl, rfl⟩
        conv => whnf
        refine (hn _).mono ?_
        rintro o T ⟨rfl, rfl⟩
        conv => whnf
        refine hf.mono ?_
        rintro o T ⟨rfl, rfl⟩
        conv => whnf
        exact ⟨_, _, ⟨rfl, rfl⟩, St.le_refl _, AV.leS_refl _ _ _⟩
      · rw [if_neg hz]
        refine triple_of_awp (hT G) hm Tryz.func116 rfl (by decide +kernel) rfl (by decide +kernel) (by show 1 ≤ _; decide +kernel) rfl ?_
        conv => whnf
        refine ht.mono ?_
        rintro o T ⟨rfl, rfl⟩
        conv => whnf
        refine (hn _).mono ?_
        rintro o T ⟨rfl, rfl⟩
        conv => whnf
        rw [show (z == 0) = false from beq_false_of_ne hz]
        conv => whnf
        exact ⟨_, _, ⟨rfl, rfl⟩, St.le_refl _, AV.leS_refl _ _ _⟩
  · rw [if_neg he] at ht ⊢
    dsimp only at ht ⊢
    refine triple_of_awp (hT G) hm Tryz.func116 rfl (by decide +kernel) rfl (by decide +kernel) (by show 1 ≤ _; decide +kernel) rfl ?_
    conv => whnf
    refine ht.mono ?_
    rintro o T ⟨rfl, rfl⟩
    conv => whnf
    exact ⟨_, _, ⟨rfl, rfl⟩, St.le_refl _, AV.leS_refl _ _ _⟩
def restE (ws : List ByteArray) (e : Int) : Int := if e = 0 ∧ ws ≠ [] then 80 else e
theorem rest_ok {S : St} {rb : Nat} {ws : List ByteArray} {e : Int} (h : S rb = some (rdO ws e)) : Triple P (C G) 87 [.ref rb 0] S fun o S' => o = .ret (.tu []) ∧ S' = S.upd rb (rdO ws (restE ws e)) := by
  have hmo := more_ok (G := G) h
  have hf := rfail_ok (G := G) h 80
  unfold restE
  cases hx : moreR ws e with
  | true =>
    rw [hx] at hmo
    unfold moreR at hx
    simp only [Bool.and_eq_true, decide_eq_true_eq] at hx
    rw [if_pos hx]
    rw [if_pos hx.1] at hf
    refine triple_of_awp (hT G) hm Tryz.func87 rfl (by decide +kernel) rfl (by decide +kernel) (by show 1 ≤ _; decide +kernel) rfl ?_
    conv => whnf
    refine hmo.mono ?_
    rintro o T ⟨rfl, rfl⟩
    conv => whnf
    refine hf.mono ?_
    rintro o T ⟨rfl, rfl⟩
    conv => whnf
    exact ⟨_, _, ⟨rfl, rfl⟩, St.le_refl _, AV.leS_refl _ _ _⟩
  | false =>
    rw [hx] at hmo
    unfold moreR at hx
    simp only [Bool.and_eq_false_iff, decide_eq_false_iff_not] at hx
    rw [if_neg (by rintro ⟨h1, h2⟩; rcases hx with h | h; exact h h1; exact h h2)]
    refine triple_of_awp (hT G) hm Tryz.func87 rfl (by decide +kernel) rfl (by decide +kernel) (by show 1 ≤ _; decide +kernel) rfl ?_
    conv => whnf
    refine hmo.mono ?_
    rintro o T ⟨rfl, rfl⟩
    conv => whnf
    exact ⟨_, _, ⟨rfl, by rw [St.upd_id h]⟩, St.le_refl _, AV.leS_refl _ _ _⟩
def wordsR : List ByteArray → List ByteArray → Int → List ByteArray × Int
  | [], ws, e => (ws, e)
  | x :: xs, ws, e => wordsR xs (oneR x ws e).1 (oneR x ws e).2
theorem wordsR_err : ∀ (xs ws : List ByteArray) {e : Int}, e ≠ 0 → wordsR xs ws e = (ws, e)
  | [], ws, e, _ => rfl
  | x :: xs, ws, e, he => by
    have : oneR x ws e = (ws, e) := by unfold oneR; rw [if_neg he]
    unfold wordsR
    rw [this]
    exact wordsR_err xs ws he
theorem wordsR_exact : ∀ (xs ws : List ByteArray), wordsR xs ws 0 = exactG ws xs
  | [], ws => by cases ws <;> rfl
  | x :: xs, [] => by
    unfold wordsR oneR
    rw [if_pos rfl]
    exact wordsR_err xs [] (e := 82) (by decide)
  | x :: xs, w :: l => by
    unfold wordsR oneR exactG
    rw [if_pos rfl]
    by_cases h : w = x
    · simp only [if_pos h]
      exact wordsR_exact xs l
    · simp only [if_neg h]
      exact wordsR_err xs l (by decide)
theorem words1_ok' {S : St} {rb : Nat} {ws : List ByteArray} {e : Int} (h : S rb = some (rdO ws e)) (xs : List ByteArray) (hxs : xs.length ≤ 1000) (sh : Sh) : Triple P (C G) 111 [.ref rb 0, .sl .any 1 (rowsS xs)] S fun o S' => o = .ret (.tu []) ∧ S' = S.upd rb (rdO (wordsR xs ws e).1 (wordsR xs ws e).2) := by
  obtain ⟨W, hW⟩ : ∃ W, W = wordsR xs ws e := ⟨_, rfl⟩
  rw [← hW]
  refine triple_of_awp (hT G) hm Tryz.func111 rfl (by decide +kernel) rfl (by decide +kernel) (by show 2 ≤ _; decide +kernel) rfl ?_
  conv => whnf
  refine ⟨⟨Nat × List ByteArray × Int, fun x => [(0, .ref rb 0), (1, .sl .any 1 (rowsS xs)), (4, .int .i64 (x.1 : Int))],
    fun x S' => S' = S.upd rb (rdO x.2.1 x.2.2) ∧ x.1 ≤ xs.length ∧ wordsR (xs.drop x.1) x.2.1 x.2.2 = W, fun x => xs.length - x.1⟩,
    ⟨(0, ws, e), ⟨rfl, ⟨rfl, rfl⟩, rfl, trivial⟩, _, St.leW_refl _, (St.upd_id h).symm, by dsimp only; omega, hW.symm⟩, ?_⟩
  rintro ⟨i, ws', e'⟩ S' ⟨rfl, hi, hg⟩
  dsimp only at hi hg
  conv => whnf
  intro _
  conv => whnf
  refine split_of (fun hlt => ?_) (fun hlt => ?_)
  · have hlt : i < xs.length := by have := of_decide_eq_true hlt; rw [rowsS_len] at this; dsimp only at this; omega
    have hd : xs.drop i = xs[i] :: xs.drop (i + 1) := List.drop_eq_getElem_cons hlt
    rw [hd] at hg
    unfold wordsR at hg
    have ga : (rowsS xs)[(i : Int).toNat]? = some [.str xs[i]] := by simp [rowsS, hlt]
    have ho := one_ok (G := G) (S := S.upd rb (rdO ws' e')) (rb := rb) (ws := ws') (e := e') (St.upd_same _ _ _) xs[i]
    rw [St.upd_upd] at ho
    have w1 : IntKind.i64.wrap ((i : Int) + 1) = ((i + 1 : Nat) : Int) := wrap_nat (by omega)
    generalize xs[i] = x at *
    conv => whnf
    refine ⟨_, ⟨by dsimp only; omega, ga⟩, ?_⟩
    conv => whnf
    refine ho.mono ?_
    rintro o T ⟨rfl, rfl⟩
    conv => whnf
    exact ⟨(i + 1, _, _), ⟨rfl, ⟨rfl, rfl⟩, congrArg _ w1, trivial⟩, ⟨_, St.leW_refl _, rfl, hlt, hg⟩, by show xs.length - (i + 1) < xs.length - i; omega⟩
  · have hlt : ¬ i < xs.length := by have := of_decide_eq_false hlt; rw [rowsS_len] at this; dsimp only at this; omega
    rw [List.drop_of_length_le (by omega)] at hg
    unfold wordsR at hg
    subst hg
    conv => whnf
    exact ⟨_, _, ⟨rfl, rfl⟩, St.le_refl _, AV.leS_refl _ _ _⟩
end Go.Proofs.YtcpdgnkhkdddhaaGreatDoor.Aw

set_option maxRecDepth 100000
set_option linter.unusedVariables false
set_option linter.unusedSimpArgs false
namespace Go.Proofs.YtcpdgnkhkdddhaaGreatDoor.Aw
open Go Go.RowKit
variable {G : Nat → Option (List AV)}

def countG (ws : List ByteArray) (v : StepV) : RetG := ((numG 0 ws).2.1, (numG 0 ws).2.2, { v with kind := 2, num := (numG 0 ws).1 })
theorem count_ok {S₀ S : St} {rb : Nat} {ws : List ByteArray} {v : StepV} (h : Rdr S₀ S rb ws v) (hw : OkW ws) :
    Triple P (C G) 144 [.ref rb 0] S fun o S' => o = .ret (errAV (countG ws v).1) ∧ Rdr S₀ S' rb (countG ws v).2.1 (countG ws v).2.2 := by
  obtain ⟨t, hat⟩ := h
  have hcs := hat.at_
  have hat2 := hat.set (v' := { v with kind := 2 }) (ws' := ws) rfl rfl rfl rfl
  have hnum := number_ok (G := G) rb ws _ 0 (by decide) (by decide) _ hat2.at_ hw.1
  have hat3 := hat2.words (ws' := (numG 0 ws).2.2)
  unfold countG
  generalize (numG 0 ws).2.2 = l2 at *
  generalize (numG 0 ws).1 = n at *
  generalize (numG 0 ws).2.1 = e at *
  have hat4 := hat3.set (v' := { v with kind := 2, num := n }) (ws' := l2) rfl rfl rfl rfl
  have hcs3 := hat3.at_
  by_cases he : e = 0
  · simp only [errAV, if_pos he] at hnum ⊢
    refine triple_of_awp (hT G) hm Tryz.func144 rfl (by decide +kernel) rfl (by decide +kernel) (by show 1 ≤ _; decide +kernel) rfl ?_
    conv => whnf
    refine ⟨_, _, hcs, ?_⟩
    conv => whnf
    refine hnum.mono ?_
    rintro o S' ⟨rfl, rfl⟩
    conv => whnf
    refine ⟨_, _, hcs3, ?_⟩
    conv => whnf
    exact ⟨_, _, ⟨rfl, t, hat4⟩, St.le_refl _, AV.leS_refl _ _ _⟩
  · simp only [errAV, if_neg he] at hnum ⊢
    refine triple_of_awp (hT G) hm Tryz.func144 rfl (by decide +kernel) rfl (by decide +kernel) (by show 1 ≤ _; decide +kernel) rfl ?_
    conv => whnf
    refine ⟨_, _, hcs, ?_⟩
    conv => whnf
    refine hnum.mono ?_
    rintro o S' ⟨rfl, rfl⟩
    conv => whnf
    refine ⟨_, _, hcs3, ?_⟩
    conv => whnf
    exact ⟨_, _, ⟨rfl, t, hat4⟩, St.le_refl _, AV.leS_refl _ _ _⟩
def solG (k : Int) (ws : List ByteArray) (v : StepV) : RetG := ((litsG ws v.lits).2.1, (litsG ws v.lits).2.2, { v with kind := k, lits := (litsG ws v.lits).1 })
theorem soli_ok (hG : GS G) {S₀ S : St} {rb : Nat} {ws : List ByteArray} {v : StepV} (h : Rdr S₀ S rb ws v) (hw : OkW ws) (hv : OkV v) :
    Triple P (C G) 147 [.ref rb 0] S fun o S' => o = .ret (errAV (solG 5 ws v).1) ∧ Rdr S₀ S' rb (solG 5 ws v).2.1 (solG 5 ws v).2.2 := by
  obtain ⟨t, hat⟩ := h
  have hcs := hat.at_
  have hat2 := hat.set (v' := { v with kind := 5 }) (ws' := ws) rfl rfl rfl rfl
  have hl := lits_ok (G := G) hG ⟨t, hat2⟩ hw.1 (by have := hw.2; have := hv.2.2.1; show ws.length + v.lits.length ≤ _; omega)
  unfold solG
  refine triple_of_awp (hT G) hm Tryz.func147 rfl (by decide +kernel) rfl (by decide +kernel) (by show 1 ≤ _; decide +kernel) rfl ?_
  conv => whnf
  refine ⟨_, _, hcs, ?_⟩
  conv => whnf
  refine hl.mono ?_
  rintro o S' ⟨rfl, hr⟩
  by_cases he : (litsG ws v.lits).2.1 = 0
  · simp only [errAV, if_pos he]
    conv => whnf
    exact ⟨_, _, ⟨rfl, hr⟩, St.le_refl _, AV.leS_refl _ _ _⟩
  · simp only [errAV, if_neg he]
    conv => whnf
    exact ⟨_, _, ⟨rfl, hr⟩, St.le_refl _, AV.leS_refl _ _ _⟩
theorem solx_ok (hG : GS G) {S₀ S : St} {rb : Nat} {ws : List ByteArray} {v : StepV} (h : Rdr S₀ S rb ws v) (hw : OkW ws) (hv : OkV v) :
    Triple P (C G) 148 [.ref rb 0] S fun o S' => o = .ret (errAV (solG 11 ws v).1) ∧ Rdr S₀ S' rb (solG 11 ws v).2.1 (solG 11 ws v).2.2 := by
  obtain ⟨t, hat⟩ := h
  have hcs := hat.at_
  have hat2 := hat.set (v' := { v with kind := 11 }) (ws' := ws) rfl rfl rfl rfl
  have hl := lits_ok (G := G) hG ⟨t, hat2⟩ hw.1 (by have := hw.2; have := hv.2.2.1; show ws.length + v.lits.length ≤ _; omega)
  unfold solG
  refine triple_of_awp (hT G) hm Tryz.func148 rfl (by decide +kernel) rfl (by decide +kernel) (by show 1 ≤ _; decide +kernel) rfl ?_
  conv => whnf
  refine ⟨_, _, hcs, ?_⟩
  conv => whnf
  refine hl.mono ?_
  rintro o S' ⟨rfl, hr⟩
  by_cases he : (litsG ws v.lits).2.1 = 0
  · simp only [errAV, if_pos he]
    conv => whnf
    exact ⟨_, _, ⟨rfl, hr⟩, St.le_refl _, AV.leS_refl _ _ _⟩
  · simp only [errAV, if_neg he]
    conv => whnf
    exact ⟨_, _, ⟨rfl, hr⟩, St.le_refl _, AV.leS_refl _ _ _⟩
def withIds (r : List ByteArray × Int × List ByteArray) (v : StepV) : RetG := (r.2.1, r.2.2, { v with ids := r.1 })
def rupG (ws : List ByteArray) (v : StepV) : RetG :=
  if (rowG ws { v with kind := 4 }).1 = 0 then withIds (idsG (rowG ws { v with kind := 4 }).2.1 (rowG ws { v with kind := 4 }).2.2.ids) (rowG ws { v with kind := 4 }).2.2
  else rowG ws { v with kind := 4 }
theorem rup_ok (hG : GS G) {S₀ S : St} {rb : Nat} {ws : List ByteArray} {v : StepV} (h : Rdr S₀ S rb ws v) (hw : OkW ws) (hv : OkV v) :
    Triple P (C G) 146 [.ref rb 0] S fun o S' => o = .ret (errAV (rupG ws v).1) ∧ Rdr S₀ S' rb (rupG ws v).2.1 (rupG ws v).2.2 := by
  obtain ⟨t, hat⟩ := h
  have hcs := hat.at_
  have hat2 := hat.set (v' := { v with kind := 4 }) (ws' := ws) rfl rfl rfl rfl
  have hrow := row_ok (G := G) hG ⟨t, hat2⟩ hw.1 (by have := hw.2; have := hv.2.1; show ws.length + v.pieces.length ≤ _; omega)
  have hw2 := hw.suffix (rowG_suffix ws { v with kind := 4 })
  have hid := rowG_ids ws { v with kind := 4 }
  unfold rupG
  generalize rowG ws { v with kind := 4 } = r at *
  obtain ⟨e, l2, v2⟩ := r
  dsimp only at hrow hw2 hid ⊢
  refine triple_of_awp (hT G) hm Tryz.func146 rfl (by decide +kernel) rfl (by decide +kernel) (by show 1 ≤ _; decide +kernel) rfl ?_
  conv => whnf
  refine ⟨_, _, hcs, ?_⟩
  conv => whnf
  refine hrow.mono ?_
  rintro o S' ⟨rfl, hr⟩
  by_cases he : e = 0
  · simp only [if_pos he]
    rw [he, show errAV 0 = .nili from rfl]
    conv => whnf
    refine (ids_ok hr hw2.1 (by have := hw2.2; have := hv.2.2.2; rw [hid]; show _ + v.ids.length ≤ _; omega)).mono ?_
    rintro o S'' ⟨rfl, hr2⟩
    unfold withIds
    by_cases he2 : (idsG l2 v2.ids).2.1 = 0
    · simp only [errAV, if_pos he2]
      conv => whnf
      exact ⟨_, _, ⟨rfl, hr2⟩, St.le_refl _, AV.leS_refl _ _ _⟩
    · simp only [errAV, if_neg he2]
      conv => whnf
      exact ⟨_, _, ⟨rfl, hr2⟩, St.le_refl _, AV.leS_refl _ _ _⟩
  · simp only [if_neg he, errAV]
    conv => whnf
    exact ⟨_, _, ⟨rfl, hr⟩, St.le_refl _, AV.leS_refl _ _ _⟩
/-- The cells of a step whose ids are a list of one, laid just now. -/
def stepOne (v : StepV) (t : Tips) (bb : Nat) (x : ByteArray) : List AV := [.int .i64 v.kind, .str v.num, .sl (.acc t.b3) 3 (rowsO v.ops), .sl (.acc t.b4) 2 (rowsP v.pieces), .str v.bound, .sl (.acc t.b6) 1 (rowsI v.lits), .sl (.own bb) 1 [[.str x]], .int .i64 v.n6, .str v.s7, .str v.s8]
theorem RdrAt.one {S₀ S : St} {rb : Nat} {ws : List ByteArray} {v : StepV} {t : Tips} (h : RdrAt S₀ S rb ws v t) {bb : Nat} (hb : S bb = none) (x : ByteArray) :
    ∃ S3, St.leW S3 ((S.upd bb (.tip 9 1 1)).upd rb (rdr ws (stepOne v t bb x))) ∧ RdrAt S₀ S3 rb ws { v with ids := [x] } { t with b7 := bb } := by
  have h2 := h.more hb (.tip 9 1 1)
  have h0 : S₀ bb = none := by
    cases e : S₀ bb with
    | none => rfl
    | some o => rw [h.le _ _ e] at hb; cases hb
  have hne : bb ≠ rb := by rintro rfl; rw [h.at_] at hb; cases hb
  refine ⟨(S.upd bb (.tip 9 1 1)).upd rb (rdr ws (stepC { v with ids := [x] } { t with b7 := bb })), ?_, St.le_upd h2.le h2.new _, h2.new, St.upd_same _ _ _, h2.t3.upd h2.at_ _, h2.t4.upd h2.at_ _, h2.t6.upd h2.at_ _, fun _ => ⟨by rw [St.upd_ne _ _ _ _ hne]; exact St.upd_same _ _ _, h0⟩⟩
  have := St.leW_upd (cs' := .sl .any 1 (rowsS ws) :: stepC { v with ids := [x] } { t with b7 := bb }) (St.upd_same (S.upd bb (.tip 9 1 1)) rb (rdr ws (stepOne v t bb x))) (by
    refine ⟨⟨rfl, rfl⟩, rfl, rfl, rfl, rfl, rfl, rfl, ?_, rfl, rfl, rfl, trivial⟩
    exact ⟨by simp, rfl, rfl, rfl⟩)
  rwa [St.upd_upd] at this
def sameG (ws : List ByteArray) (v : StepV) : RetG :=
  if (numG 1 ws).2.1 = 0 then rowG (numG 1 ws).2.2 { v with kind := 12, ids := [(numG 1 ws).1] }
  else ((numG 1 ws).2.1, (numG 1 ws).2.2, { v with kind := 12 })
theorem same_ok (hG : GS G) {S₀ S : St} {rb : Nat} {ws : List ByteArray} {v : StepV} (h : Rdr S₀ S rb ws v) (hw : OkW ws) (hv : OkV v) :
    Triple P (C G) 149 [.ref rb 0] S fun o S' => o = .ret (errAV (sameG ws v).1) ∧ Rdr S₀ S' rb (sameG ws v).2.1 (sameG ws v).2.2 := by
  obtain ⟨t, hat⟩ := h
  have hcs := hat.at_
  have hat2 := hat.set (v' := { v with kind := 12 }) (ws' := ws) rfl rfl rfl rfl
  have hnum := number_ok (G := G) rb ws _ 1 (by decide) (by decide) _ hat2.at_ hw.1
  have hat3 := hat2.words (ws' := (numG 1 ws).2.2)
  have hw2 := hw.suffix (numG_suffix 1 ws)
  unfold sameG
  generalize (numG 1 ws).2.2 = l2 at *
  generalize (numG 1 ws).1 = n at *
  generalize (numG 1 ws).2.1 = e at *
  have hcs3 := hat3.at_
  refine triple_of_awp (hT G) hm Tryz.func149 rfl (by decide +kernel) rfl (by decide +kernel) (by show 1 ≤ _; decide +kernel) rfl ?_
  by_cases he : e = 0
  · simp only [if_pos he]
    simp only [errAV, if_pos he] at hnum
    conv => whnf
    refine ⟨_, _, hcs, ?_⟩
    conv => whnf
    refine hnum.mono ?_
    rintro o S' ⟨rfl, rfl⟩
    conv => whnf
    intro bb hbb
    conv => whnf
    refine ⟨_, _, (hat3.more hbb _).at_, ?_⟩
    conv => whnf
    obtain ⟨S3, hle, hat4⟩ := hat3.one hbb n
    refine (Triple.weakS (row_ok (G := G) hG ⟨_, hat4⟩ hw2.1 (by have := hw2.2; have := hv.2.1; show l2.length + v.pieces.length ≤ _; omega)) hle).mono ?_
    rintro o S' ⟨rfl, hr⟩
    generalize rowG l2 { v with kind := 12, ids := [n] } = r at *
    by_cases he2 : r.1 = 0
    · simp only [errAV, if_pos he2]
      conv => whnf
      exact ⟨_, _, ⟨rfl, hr⟩, St.le_refl _, AV.leS_refl _ _ _⟩
    · simp only [errAV, if_neg he2]
      conv => whnf
      exact ⟨_, _, ⟨rfl, hr⟩, St.le_refl _, AV.leS_refl _ _ _⟩
  · simp only [if_neg he]
    simp only [errAV, if_neg he] at hnum ⊢
    conv => whnf
    refine ⟨_, _, hcs, ?_⟩
    conv => whnf
    refine hnum.mono ?_
    rintro o S' ⟨rfl, rfl⟩
    conv => whnf
    exact ⟨_, _, ⟨rfl, t, hat3⟩, St.le_refl _, AV.leS_refl _ _ _⟩
def idWords : List ByteArray := [⟨#[105, 100]⟩]
def delG (ws : List ByteArray) (v : StepV) : RetG :=
  if (exactG ws idWords).2 = 0 then
    if (numG 1 (exactG ws idWords).1).2.1 = 0 then withIds (idsG (numG 1 (exactG ws idWords).1).2.2 [(numG 1 (exactG ws idWords).1).1]) { v with kind := 6 }
    else ((numG 1 (exactG ws idWords).1).2.1, (numG 1 (exactG ws idWords).1).2.2, { v with kind := 6 })
  else ((exactG ws idWords).2, (exactG ws idWords).1, { v with kind := 6 })
theorem del_ok {S₀ S : St} {rb : Nat} {ws : List ByteArray} {v : StepV} (h : Rdr S₀ S rb ws v) (hw : OkW ws) (hv : OkV v) :
    Triple P (C G) 150 [.ref rb 0] S fun o S' => o = .ret (errAV (delG ws v).1) ∧ Rdr S₀ S' rb (delG ws v).2.1 (delG ws v).2.2 := by
  obtain ⟨t, hat⟩ := h
  have hcs := hat.at_
  have hat2 := hat.set (v' := { v with kind := 6 }) (ws' := ws) rfl rfl rfl rfl
  have hw1 := hw.suffix (exactG_suffix ws idWords)
  unfold delG
  refine triple_of_awp (hT G) hm Tryz.func150 rfl (by decide +kernel) rfl (by decide +kernel) (by show 1 ≤ _; decide +kernel) rfl ?_
  conv => whnf
  refine ⟨_, _, hcs, ?_⟩
  conv => whnf
  intro bb hbb
  have hat3 := hat2.more hbb (.tip 9 ((C G).T 9).size 1)
  conv => whnf
  refine Triple.use (exactly_ok rb ws _ idWords (by decide) _ hat3.at_) (by exact ⟨rfl, ⟨rfl, rfl⟩, trivial⟩) ?_
  rintro o S' ⟨rfl, rfl⟩
  have hat4 := hat3.words (ws' := (exactG ws idWords).1)
  generalize (exactG ws idWords).1 = l1 at *
  generalize (exactG ws idWords).2 = e1 at *
  have hnum := number_ok (G := G) rb l1 _ 1 (by decide) (by decide) _ hat4.at_ hw1.1
  have hat5 := hat4.words (ws' := (numG 1 l1).2.2)
  have hw2 := hw1.suffix (numG_suffix 1 l1)
  by_cases he1 : e1 = 0
  · simp only [errAV, if_pos he1]
    generalize (numG 1 l1).2.2 = l2 at *
    generalize (numG 1 l1).1 = n at *
    generalize (numG 1 l1).2.1 = e at *
    by_cases he : e = 0
    · simp only [if_pos he]
      simp only [errAV, if_pos he] at hnum
      conv => whnf
      refine hnum.mono ?_
      rintro o S' ⟨rfl, rfl⟩
      conv => whnf
      intro b2 hb2
      conv => whnf
      refine ⟨_, _, (hat5.more hb2 _).at_, ?_⟩
      conv => whnf
      obtain ⟨S3, hle, hat6⟩ := hat5.one hb2 n
      refine (Triple.weakS (ids_ok (G := G) ⟨_, hat6⟩ hw2.1 (by have := hw2.2; show l2.length + 1 ≤ _; omega)) hle).mono ?_
      rintro o S' ⟨rfl, hr⟩
      unfold withIds
      dsimp only at hr ⊢
      by_cases he2 : (idsG l2 [n]).2.1 = 0
      · simp only [errAV, if_pos he2]
        conv => whnf
        exact ⟨_, _, ⟨rfl, hr⟩, St.le_refl _, AV.leS_refl _ _ _⟩
      · simp only [errAV, if_neg he2]
        conv => whnf
        exact ⟨_, _, ⟨rfl, hr⟩, St.le_refl _, AV.leS_refl _ _ _⟩
    · simp only [if_neg he]
      simp only [errAV, if_neg he] at hnum ⊢
      conv => whnf
      refine hnum.mono ?_
      rintro o S' ⟨rfl, rfl⟩
      conv => whnf
      exact ⟨_, _, ⟨rfl, t, hat5⟩, St.le_refl _, AV.leS_refl _ _ _⟩
  · simp only [if_neg he1, errAV]
    conv => whnf
    exact ⟨_, _, ⟨rfl, t, hat4⟩, St.le_refl _, AV.leS_refl _ _ _⟩
end Go.Proofs.YtcpdgnkhkdddhaaGreatDoor.Aw

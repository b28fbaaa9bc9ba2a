/-
  Package proof's reader: id, conclusion.
  Package proof's reader: behind, op, pol.
  Package proof's reader: op, pol.
  Package proof's reader: pol.
  Package hallmarkref8: the reader's ops.
  Package hallmarkref8: the reader's row.
  Package hallmarkref8: the reader's row, no fault yet.
-/
import Derived.Test.YtcpdgnkhkdddhaaGreatDoorWgh12
set_option maxRecDepth 100000
set_option linter.unusedVariables false
set_option linter.unusedSimpArgs false
namespace Go.Proofs.YtcpdgnkhkdddhaaGreatDoor.Aw
open Go Go.RowKit
variable {G : Nat → Option (List AV)}

def colonS : ByteArray := ⟨#[58]⟩
def idG (ws : List ByteArray) (v : StepV) : RetG :=
  if ws.head? = some colonS then
    if (numG 1 ws.tail).2.1 = 0 then (0, (numG 1 ws.tail).2.2, { v with ids := [(numG 1 ws.tail).1] })
    else ((numG 1 ws.tail).2.1, (numG 1 ws.tail).2.2, v)
  else (0, ws, v)
theorem idG_suffix (ws : List ByteArray) (v : StepV) : (idG ws v).2.1 <:+ ws := by
  unfold idG
  have h2 := (numG_suffix 1 ws.tail).trans (List.tail_suffix ws)
  split
  · split <;> exact h2
  · exact List.suffix_refl _
/-- The words' first is let go. -/
theorem words_drop (w : ByteArray) (l : List ByteArray) : List.drop (Int.toNat 1) (List.take ((((rowsS (w :: l)).length : Nat) : Int).toNat) (rowsS (w :: l))) = rowsS l := by
  simp [rowsS]
  exact List.take_of_length_le (by simp)
theorem id_ok {S₀ S : St} {rb : Nat} {ws : List ByteArray} {v : StepV} (h : Rdr S₀ S rb ws v) (hw : OkW ws) :
    Triple P (C G) 180 [.ref rb 0] S fun o S' => o = .ret (errAV (idG ws v).1) ∧ Rdr S₀ S' rb (idG ws v).2.1 (idG ws v).2.2 := by
  obtain ⟨t, hat⟩ := h
  have hcs := hat.at_
  suffices hx : Triple P (C G) 180 [.ref rb 0] S fun o S' => o = .ret (errAV (idG ws v).1) ∧ ∃ S3, St.leW S3 S' ∧ Rdr S₀ S3 rb (idG ws v).2.1 (idG ws v).2.2 by
    refine Triple.lessW hx ?_
    rintro o S' ⟨rfl, S3, h1, h2⟩
    exact ⟨S3, ⟨rfl, h2⟩, h1⟩
  have hnx := rnext_ok (G := G) rb ws _ colonS S hcs
  unfold idG
  by_cases hc : ws.head? = some colonS
  · simp only [if_pos hc]
    rw [decide_eq_true hc] at hnx
    obtain ⟨l, rfl⟩ : ∃ l, ws = colonS :: l := by
      cases ws with
      | nil => cases hc
      | cons w l => simp only [List.head?_cons, Option.some.injEq] at hc; exact ⟨l, by rw [hc]⟩
    have hw1 := hw.suffix (List.suffix_cons colonS l)
    have hat2 := hat.words (ws' := l)
    have hnum := number_ok (G := G) rb l _ 1 (by decide) (by decide) _ hat2.at_ hw1.1
    have hat3 := hat2.words (ws' := (numG 1 l).2.2)
    rw [show (colonS :: l).tail = l from rfl]
    generalize (numG 1 l).2.2 = l2 at *
    generalize (numG 1 l).1 = n at *
    generalize (numG 1 l).2.1 = e at *
    refine triple_of_awp (hT G) hm Tryz.func180 rfl (by decide +kernel) rfl (by decide +kernel) (by show 1 ≤ _; decide +kernel) rfl ?_
    refine awp_seq2 fun K hK hQ => ?_
    conv => whnf
    refine hK _ _ ?_
    clear hK hQ K
    refine awp_seq2 fun K hK hQ => ?_
    conv => whnf
    refine hnx.mono ?_
    rintro o T ⟨rfl, rfl⟩
    conv => whnf
    refine hK _ _ ?_
    clear hK hQ K
    refine awp_seq2 fun K hK hQ => ?_
    conv => whnf
    refine ⟨_, _, hcs, ?_⟩
    conv => whnf
    refine ⟨⟨by decide, by simp only [rowsS_len, List.length_cons]; omega, by omega⟩, ?_⟩
    conv => whnf
    refine ⟨_, _, hcs, ?_⟩
    rw [words_drop]
    conv => whnf
    refine hK _ _ ?_
    clear hK hQ K
    by_cases he : e = 0
    · simp only [if_pos he]
      simp only [errAV, if_pos he] at hnum
      conv => whnf
      refine hnum.mono ?_
      rintro o S' ⟨rfl, rfl⟩
      conv => whnf
      intro b2 hb2
      conv => whnf
      refine ⟨_, _, (hat3.more hb2 _).at_, ?_⟩
      conv => whnf
      obtain ⟨S3, hle, hat4⟩ := hat3.one hb2 n
      exact ⟨_, _, ⟨rfl, S3, hle, _, hat4⟩, St.le_refl _, AV.leS_refl _ _ _⟩
    · simp only [if_neg he]
      simp only [errAV, if_neg he] at hnum ⊢
      conv => whnf
      refine hnum.mono ?_
      rintro o S' ⟨rfl, rfl⟩
      conv => whnf
      exact ⟨_, _, ⟨rfl, _, St.leW_refl _, t, hat3⟩, St.le_refl _, AV.leS_refl _ _ _⟩
  · simp only [if_neg hc]
    rw [decide_eq_false hc] at hnx
    refine triple_of_awp (hT G) hm Tryz.func180 rfl (by decide +kernel) rfl (by decide +kernel) (by show 1 ≤ _; decide +kernel) rfl ?_
    conv => whnf
    refine hnx.mono ?_
    rintro o T ⟨rfl, rfl⟩
    conv => whnf
    exact ⟨_, _, ⟨rfl, _, St.leW_refl _, t, hat⟩, St.le_refl _, AV.leS_refl _ _ _⟩
def allG (l : List ByteArray) (v : StepV) : RetG :=
  if (numG 0 l).2.1 = 0 then
    if (numG 0 l).2.2 = [] then (82, (numG 0 l).2.2, { v with n6 := 6, s8 := (numG 0 l).1 }) else idG (numG 0 l).2.2 { v with n6 := 6, s8 := (numG 0 l).1 }
  else ((numG 0 l).2.1, (numG 0 l).2.2, { v with n6 := 6, s8 := (numG 0 l).1 })
def upG (r : RetG) : RetG :=
  if r.1 = 0 then ((numG (-1) r.2.1).2.1, (numG (-1) r.2.1).2.2, { r.2.2 with s8 := (numG (-1) r.2.1).1 }) else r
def boundsG (l : List ByteArray) (v : StepV) : RetG :=
  if (numG (-1) l).2.1 = 0 then upG (idG (numG (-1) l).2.2 { v with n6 := 5, s7 := (numG (-1) l).1 })
  else ((numG (-1) l).2.1, (numG (-1) l).2.2, { v with n6 := 5, s7 := (numG (-1) l).1 })
def noneS : ByteArray := ⟨#[78, 79, 78, 69]⟩
def satS : ByteArray := ⟨#[83, 65, 84]⟩
def unsatS : ByteArray := ⟨#[85, 78, 83, 65, 84]⟩
def allS : ByteArray := ⟨#[65, 76, 76]⟩
def boundsS : ByteArray := ⟨#[66, 79, 85, 78, 68, 83]⟩
def conclG (ws : List ByteArray) (v : StepV) : RetG :=
  match ws with
  | [] => (82, [], { v with kind := 9 })
  | w :: l =>
    if w = noneS then (0, l, { v with kind := 9, n6 := 1 })
    else if w = satS then (0, l, { v with kind := 9, n6 := 3 })
    else if w = unsatS then idG l { v with kind := 9, n6 := 2 }
    else if w = allS then allG l { v with kind := 9 }
    else if w = boundsS then boundsG l { v with kind := 9 }
    else (80, l, { v with kind := 9 })
theorem conclusion_ok {S₀ S : St} {rb : Nat} {ws : List ByteArray} {v : StepV} (h : Rdr S₀ S rb ws v) (hw : OkW ws) :
    Triple P (C G) 153 [.ref rb 0] S fun o S' => o = .ret (errAV (conclG ws v).1) ∧ Rdr S₀ S' rb (conclG ws v).2.1 (conclG ws v).2.2 := by
  obtain ⟨t, hat⟩ := h
  have hcs := hat.at_
  have hat2 := hat.set (v' := { v with kind := 9 }) (ws' := ws) rfl rfl rfl rfl
  have htk := rtake_ok (G := G) rb ws _ _ hat2.at_
  refine triple_of_awp (hT G) hm Tryz.func153 rfl (by decide +kernel) rfl (by decide +kernel) (by show 1 ≤ _; decide +kernel) rfl ?_
  refine awp_seq2 fun K hK hQ => ?_
  conv => whnf
  refine hK _ _ ?_
  clear hK hQ K
  refine awp_seq2 fun K hK hQ => ?_
  conv => whnf
  refine ⟨_, _, hcs, ?_⟩
  conv => whnf
  refine hK _ _ ?_
  clear hK hQ K
  refine awp_seq2 fun K hK hQ => ?_
  cases ws with
  | nil =>
    conv => whnf
    refine htk.mono ?_
    rintro o S' ⟨rfl, rfl⟩
    conv => whnf
    refine hK _ _ ?_
    clear hK hQ K
    conv => whnf
    exact ⟨_, _, ⟨rfl, t, hat2⟩, St.le_refl _, AV.leS_refl _ _ _⟩
  | cons w l =>
    conv => whnf
    refine htk.mono ?_
    rintro o S' ⟨rfl, rfl⟩
    have hat3 := hat2.words (ws' := l)
    have hcs3 := hat3.at_
    have hw1 := hw.suffix (List.suffix_cons w l)
    clear htk
    generalize (S.upd rb _).upd rb _ = S3 at hat3 hcs3 ⊢
    conv => whnf
    refine hK _ _ ?_
    clear hK hQ K
    unfold conclG
    dsimp only
    refine awp_seq2 fun K hK hQ => ?_
    conv => whnf
    refine hK _ _ ?_
    clear hK hQ K
    refine awp_seq2 fun K hK hQ => ?_
    conv => whnf
    refine split_of (fun h => ?_) (fun h => ?_)
    · have h1 : w = noneS := of_decide_eq_true h
      simp only [if_pos h1] at hK hQ
      conv => whnf
      refine ⟨_, _, hcs3, ?_⟩
      conv => whnf
      refine hK _ _ ?_
      clear hK hQ K
      conv => whnf
      exact ⟨_, _, ⟨rfl, t, hat3.set (v' := { v with kind := 9, n6 := 1 }) (ws' := l) rfl rfl rfl rfl⟩, St.le_refl _, AV.leS_refl _ _ _⟩
    have h1 : ¬ w = noneS := of_decide_eq_false h
    simp only [if_neg h1] at hK hQ
    conv => whnf
    refine split_of (fun h => ?_) (fun h => ?_)
    · have h1 : w = satS := of_decide_eq_true h
      simp only [if_pos h1] at hK hQ
      conv => whnf
      refine ⟨_, _, hcs3, ?_⟩
      conv => whnf
      refine hK _ _ ?_
      clear hK hQ K
      conv => whnf
      exact ⟨_, _, ⟨rfl, t, hat3.set (v' := { v with kind := 9, n6 := 3 }) (ws' := l) rfl rfl rfl rfl⟩, St.le_refl _, AV.leS_refl _ _ _⟩
    have h2 : ¬ w = satS := of_decide_eq_false h
    simp only [if_neg h2] at hK hQ
    conv => whnf
    refine split_of (fun h => ?_) (fun h => ?_)
    · have h1 : w = unsatS := of_decide_eq_true h
      simp only [if_pos h1] at hQ
      clear hK
      conv => whnf
      refine ⟨_, _, hcs3, ?_⟩
      conv => whnf
      have hat4 := hat3.set (v' := { v with kind := 9, n6 := 2 }) (ws' := l) rfl rfl rfl rfl
      refine (id_ok ⟨t, hat4⟩ hw1).mono ?_
      rintro o S' ⟨rfl, hr⟩
      generalize idG l { v with kind := 9, n6 := 2 } = r at *
      by_cases he2 : r.1 = 0
      · simp only [errAV, if_pos he2] at hQ ⊢
        conv => whnf
        refine hQ _ _ _ (by simp) ?_
        conv => whnf
        exact ⟨_, _, ⟨rfl, hr⟩, St.le_refl _, AV.leS_refl _ _ _⟩
      · simp only [errAV, if_neg he2] at hQ ⊢
        conv => whnf
        refine hQ _ _ _ (by simp) ?_
        conv => whnf
        exact ⟨_, _, ⟨rfl, hr⟩, St.le_refl _, AV.leS_refl _ _ _⟩
    have h3 : ¬ w = unsatS := of_decide_eq_false h
    simp only [if_neg h3] at hK hQ
    conv => whnf
    refine split_of (fun h => ?_) (fun h => ?_)
    · have h1 : w = allS := of_decide_eq_true h
      simp only [if_pos h1] at hQ
      clear hK
      have hat4 := hat3.set (v' := { v with kind := 9, n6 := 6 }) (ws' := l) rfl rfl rfl rfl
      have hnum := number_ok (G := G) rb l _ 0 (by decide) (by decide) _ hat4.at_ hw1.1
      have hat5 := hat4.words (ws' := (numG 0 l).2.2)
      have hw2 := hw1.suffix (numG_suffix 0 l)
      unfold allG at hQ
      generalize (numG 0 l).2.2 = l2 at *
      generalize (numG 0 l).1 = n at *
      generalize (numG 0 l).2.1 = e at *
      have hat6 := hat5.set (v' := { v with kind := 9, n6 := 6, s8 := n }) (ws' := l2) rfl rfl rfl rfl
      have hcs5 := hat5.at_
      have hcs6 := hat6.at_
      conv => whnf
      refine ⟨_, _, hcs3, ?_⟩
      conv => whnf
      refine hnum.mono ?_
      rintro o S' ⟨rfl, rfl⟩
      by_cases he : e = 0
      · simp only [if_pos he] at hQ
        simp only [errAV, if_pos he]
        conv => whnf
        refine ⟨_, _, hcs5, ?_⟩
        conv => whnf
        refine ⟨_, _, hcs6, ?_⟩
        conv => whnf
        intro _
        cases l2 with
        | nil =>
          simp only [if_true] at hQ
          conv => whnf
          refine (fail_ok 82 _).mono ?_
          rintro o S' ⟨rfl, rfl⟩
          conv => whnf
          refine hQ _ _ _ (by simp) ?_
          conv => whnf
          exact ⟨_, _, ⟨rfl, t, hat6⟩, St.le_refl _, AV.leS_refl _ _ _⟩
        | cons x l2 =>
          simp only [reduceCtorEq, if_false] at hQ
          conv => whnf
          refine (id_ok ⟨t, hat6⟩ hw2).mono ?_
          rintro o S' ⟨rfl, hr⟩
          generalize idG (x :: l2) { v with kind := 9, n6 := 6, s8 := n } = r at *
          by_cases he2 : r.1 = 0
          · simp only [errAV, if_pos he2] at hQ ⊢
            conv => whnf
            refine hQ _ _ _ (by simp) ?_
            conv => whnf
            exact ⟨_, _, ⟨rfl, hr⟩, St.le_refl _, AV.leS_refl _ _ _⟩
          · simp only [errAV, if_neg he2] at hQ ⊢
            conv => whnf
            refine hQ _ _ _ (by simp) ?_
            conv => whnf
            exact ⟨_, _, ⟨rfl, hr⟩, St.le_refl _, AV.leS_refl _ _ _⟩
      · simp only [if_neg he] at hQ
        simp only [errAV, if_neg he] at hQ ⊢
        conv => whnf
        refine ⟨_, _, hcs5, ?_⟩
        conv => whnf
        refine hQ _ _ _ (by simp) ?_
        conv => whnf
        exact ⟨_, _, ⟨rfl, t, hat6⟩, St.le_refl _, AV.leS_refl _ _ _⟩
    have h4 : ¬ w = allS := of_decide_eq_false h
    simp only [if_neg h4] at hK hQ
    conv => whnf
    refine split_of (fun h => ?_) (fun h => ?_)
    · have h1 : w = boundsS := of_decide_eq_true h
      simp only [if_pos h1] at hQ
      clear hK
      have hat4 := hat3.set (v' := { v with kind := 9, n6 := 5 }) (ws' := l) rfl rfl rfl rfl
      have hnum := number_ok (G := G) rb l _ (-1) (by decide) (by decide) _ hat4.at_ hw1.1
      have hat5 := hat4.words (ws' := (numG (-1) l).2.2)
      have hw2 := hw1.suffix (numG_suffix (-1) l)
      unfold boundsG at hQ
      generalize (numG (-1) l).2.2 = l2 at *
      generalize (numG (-1) l).1 = n at *
      generalize (numG (-1) l).2.1 = e at *
      have hat6 := hat5.set (v' := { v with kind := 9, n6 := 5, s7 := n }) (ws' := l2) rfl rfl rfl rfl
      have hcs5 := hat5.at_
      conv => whnf
      refine ⟨_, _, hcs3, ?_⟩
      conv => whnf
      refine hnum.mono ?_
      rintro o S' ⟨rfl, rfl⟩
      by_cases he : e = 0
      · simp only [if_pos he] at hQ
        simp only [errAV, if_pos he]
        conv => whnf
        refine ⟨_, _, hcs5, ?_⟩
        conv => whnf
        have hw3 := hw2.suffix (idG_suffix l2 { v with kind := 9, n6 := 5, s7 := n })
        refine (id_ok ⟨t, hat6⟩ hw2).mono ?_
        rintro o S' ⟨rfl, hr⟩
        generalize idG l2 { v with kind := 9, n6 := 5, s7 := n } = r at *
        obtain ⟨e2, l3, v3⟩ := r
        dsimp only at hr hw3 ⊢
        unfold upG at hQ
        dsimp only at hQ
        obtain ⟨t2, hat7⟩ := hr
        have hnum2 := number_ok (G := G) rb l3 _ (-1) (by decide) (by decide) _ hat7.at_ hw3.1
        have hat8 := hat7.words (ws' := (numG (-1) l3).2.2)
        generalize (numG (-1) l3).2.2 = l4 at *
        generalize (numG (-1) l3).1 = m at *
        generalize (numG (-1) l3).2.1 = e3 at *
        have hat9 := hat8.set (v' := { v3 with s8 := m }) (ws' := l4) rfl rfl rfl rfl
        have hcs8 := hat8.at_
        by_cases he2 : e2 = 0
        · simp only [if_pos he2] at hQ
          simp only [errAV, if_pos he2]
          by_cases he3 : e3 = 0
          · simp only [errAV, if_pos he3] at hnum2 hQ
            conv => whnf
            refine hnum2.mono ?_
            rintro o S' ⟨rfl, rfl⟩
            conv => whnf
            refine ⟨_, _, hcs8, ?_⟩
            conv => whnf
            refine hQ _ _ _ (by simp) ?_
            conv => whnf
            exact ⟨_, _, ⟨rfl, t2, hat9⟩, St.le_refl _, AV.leS_refl _ _ _⟩
          · simp only [errAV, if_neg he3] at hnum2 hQ
            conv => whnf
            refine hnum2.mono ?_
            rintro o S' ⟨rfl, rfl⟩
            conv => whnf
            refine ⟨_, _, hcs8, ?_⟩
            conv => whnf
            refine hQ _ _ _ (by simp) ?_
            conv => whnf
            exact ⟨_, _, ⟨rfl, t2, hat9⟩, St.le_refl _, AV.leS_refl _ _ _⟩
        · simp only [if_neg he2] at hQ
          simp only [errAV, if_neg he2] at hQ ⊢
          conv => whnf
          refine hQ _ _ _ (by simp) ?_
          conv => whnf
          exact ⟨_, _, ⟨rfl, t2, hat7⟩, St.le_refl _, AV.leS_refl _ _ _⟩
      · simp only [if_neg he] at hQ
        simp only [errAV, if_neg he] at hQ ⊢
        conv => whnf
        refine ⟨_, _, hcs5, ?_⟩
        conv => whnf
        refine hQ _ _ _ (by simp) ?_
        conv => whnf
        exact ⟨_, _, ⟨rfl, t, hat6⟩, St.le_refl _, AV.leS_refl _ _ _⟩
    have h5 : ¬ w = boundsS := of_decide_eq_false h
    simp only [if_neg h5] at hK hQ
    conv => whnf
    refine (fail_ok 80 _).mono ?_
    rintro o S' ⟨rfl, rfl⟩
    conv => whnf
    refine hQ _ _ _ (by simp) ?_
    conv => whnf
    exact ⟨_, _, ⟨rfl, t, hat3⟩, St.le_refl _, AV.leS_refl _ _ _⟩
end Go.Proofs.YtcpdgnkhkdddhaaGreatDoor.Aw

set_option maxRecDepth 100000
set_option linter.unusedVariables false
set_option linter.unusedSimpArgs false
namespace Go.Proofs.YtcpdgnkhkdddhaaGreatDoor.Aw
open Go Go.RowKit
variable {G : Nat → Option (List AV)}

def encM (tb : List (ByteArray × Int)) : List (AV × AV) := tb.map fun e => (.str e.1, .int .i64 e.2)
def behindG (tb : List (ByteArray × Int)) (ws : List ByteArray) (k : Int) : Int × List ByteArray :=
  match ws with
  | [] => (k, [])
  | w :: l => match tb.find? (fun e => decide (e.1 = w)) with
    | some e => (e.2, l)
    | none => (k, w :: l)
theorem behindG_hit {tb : List (ByteArray × Int)} (hnd : (tb.map (·.1)).Nodup) {k : ByteArray} {z : Int} (h : (k, z) ∈ tb) (l : List ByteArray) (kd : Int) : behindG tb (k :: l) kd = (z, l) := by
  have : tb.find? (fun e => decide (e.1 = k)) = some (k, z) := by
    induction tb with
    | nil => cases h
    | cons e tb ih =>
      rw [List.find?_cons]
      rcases List.mem_cons.1 h with rfl | h
      · simp
      · have hne : ¬ e.1 = k := by
          intro he
          rw [List.map_cons, List.nodup_cons] at hnd
          exact hnd.1 (List.mem_map.2 ⟨_, h, he.symm⟩)
        simp only [hne, decide_false]
        exact ih (by rw [List.map_cons, List.nodup_cons] at hnd; exact hnd.2) h
  simp only [behindG, this]
theorem behindG_miss {tb : List (ByteArray × Int)} {ws : List ByteArray} (h : ∀ e ∈ tb, ws.head? ≠ some e.1) (kd : Int) : behindG tb ws kd = (kd, ws) := by
  cases ws with
  | nil => rfl
  | cons w l =>
    have : tb.find? (fun e => decide (e.1 = w)) = none := by
      rw [List.find?_eq_none]
      intro e he
      have := h e he
      simp only [List.head?_cons, ne_eq, Option.some.injEq] at this
      simp [Ne.symm this]
    simp only [behindG, this]
theorem RdrAt.del {S₀ S : St} {rb mr : Nat} {ws : List ByteArray} {v : StepV} {t : Tips} (h : RdrAt S₀ S rb ws v t) (h0 : S₀ mr = none) {es : List (AV × AV)} (hm : S mr = some (.mapo es)) : RdrAt S₀ (S.del mr) rb ws v t := by
  have hk : ∀ x p, S x = some p → (∀ es', p ≠ .mapo es') → (S.del mr) x = some p := fun x p hx hp => by
    rw [St.del_ne _ _ _ (fun e => by subst e; rw [hm] at hx; cases hx; exact hp _ rfl)]; exact hx
  exact ⟨St.le_del' h.le h0, h.new, hk _ _ h.at_ (by intro es' e; unfold rdr at e; cases e), fun hn => ⟨hk _ _ (h.t3 hn).1 (by intro _ e; cases e), (h.t3 hn).2⟩, fun hn => ⟨hk _ _ (h.t4 hn).1 (by intro _ e; cases e), (h.t4 hn).2⟩, fun hn => ⟨hk _ _ (h.t6 hn).1 (by intro _ e; cases e), (h.t6 hn).2⟩, fun hn => ⟨hk _ _ (h.t7 hn).1 (by intro _ e; cases e), (h.t7 hn).2⟩⟩
theorem St.le_non {S₀ S : St} (h : St.le S₀ S) {b : Nat} (hb : S b = none) : S₀ b = none := by
  cases e : S₀ b with
  | none => rfl
  | some o => rw [h _ _ e] at hb; cases hb
/-- Another row of the walk's own is written. -/
theorem RdrAt.put {S₀ S : St} {rb x : Nat} {ws : List ByteArray} {v : StepV} {t : Tips} (h : RdrAt S₀ S rb ws v t) {e : TypeId} {cs : List AV} (hx : S x = some (.obj e cs)) (hx0 : S₀ x = none) (hne : rb ≠ x) (o : Own) : RdrAt S₀ (S.upd x o) rb ws v t := by
  have hk : ∀ y e k n, S y = some (.tip e k n) → (S.upd x o) y = some (.tip e k n) := fun y e k n hy => by
    rw [St.upd_ne _ _ _ _ (fun e => by subst e; rw [hx] at hy; cases hy)]; exact hy
  exact ⟨St.le_upd h.le hx0 _, h.new, by rw [St.upd_ne _ _ _ _ hne]; exact h.at_, fun hn => ⟨hk _ _ _ _ (h.t3 hn).1, (h.t3 hn).2⟩, fun hn => ⟨hk _ _ _ _ (h.t4 hn).1, (h.t4 hn).2⟩, fun hn => ⟨hk _ _ _ _ (h.t6 hn).1, (h.t6 hn).2⟩, fun hn => ⟨hk _ _ _ _ (h.t7 hn).1, (h.t7 hn).2⟩⟩
theorem behind_ok {tb : List (ByteArray × Int)} (hnd : (tb.map (·.1)).Nodup) {S₀ S : St} {rb mr : Nat} {ws : List ByteArray} {v : StepV} {t : Tips} (h : RdrAt S₀ S rb ws v t) (h0 : S₀ mr = none) (hmr : S mr = some (.mapo (encM tb))) (kd : Int) (num : ByteArray) (lit : Int) :
    Triple P (C G) 195 [.ref rb 0, .ag [.int .i64 kd, .str num, .int .i64 lit], .mp mr] S fun o S' => o = .ret (.ag [.int .i64 (behindG tb ws kd).1, .str num, .int .i64 lit]) ∧ Rdr S₀ S' rb (behindG tb ws kd).2 v := by
  refine triple_of_awp (hT G) hm Tryz.func195 rfl (by decide +kernel) rfl (by decide +kernel) (by show 3 ≤ _; decide +kernel) rfl ?_
  refine awp_seq2 fun K hK hQ => ?_
  conv => whnf
  intro b4 hb4
  conv => whnf
  intro b6 hb6
  conv => whnf
  refine hK _ _ ?_
  clear hK hQ K
  have hat1 := (h.more hb4 (.obj 123 [.int .i64 kd, .str num, .int .i64 lit])).more hb6 (.obj 123 [.int .i64 0, .str ByteArray.empty, .int .i64 0])
  refine awp_seq2 fun K hK hQ => ?_
  conv => whnf
  have hm1 : ((S.upd b4 (.obj 123 [.int .i64 kd, .str num, .int .i64 lit])).upd b6 (.obj 123 [.int .i64 0, .str ByteArray.empty, .int .i64 0])) mr = some (.mapo (encM tb)) := St.up hb6 (St.up hb4 hmr)
  refine ⟨_, hm1, ?_⟩
  have hat2 := hat1.del h0 hm1
  have k6 := St.upd_same (S.upd b4 (.obj 123 [.int .i64 kd, .str num, .int .i64 lit])) b6 (.obj 123 [.int .i64 0, .str ByteArray.empty, .int .i64 0])
  have k4 : ((S.upd b4 (.obj 123 [.int .i64 kd, .str num, .int .i64 lit])).upd b6 (.obj 123 [.int .i64 0, .str ByteArray.empty, .int .i64 0])) b4 = some (.obj 123 [.int .i64 kd, .str num, .int .i64 lit]) := St.up hb6 (St.upd_same _ _ _)
  have z4 := St.le_non h.le hb4
  have z6 := St.le_non h.le (St.no hb6)
  have n64 : b4 ≠ b6 := (St.ne_upd hb6).symm
  have nr4 : rb ≠ b4 := St.ne_of hb4 h.at_
  have nr6 : rb ≠ b6 := St.ne_of hb6 (St.up hb4 h.at_)
  generalize (S.upd b4 (.obj 123 [.int .i64 kd, .str num, .int .i64 lit])).upd b6 (.obj 123 [.int .i64 0, .str ByteArray.empty, .int .i64 0]) = S1 at *
  have n4 : b4 ≠ mr := fun e => by subst e; rw [k4] at hm1; cases hm1
  have n6 : b6 ≠ mr := fun e => by subst e; rw [k6] at hm1; cases hm1
  have k4 : (S1.del mr) b4 = some (.obj 123 [.int .i64 kd, .str num, .int .i64 lit]) := by rw [St.del_ne _ _ _ n4]; exact k4
  have k6 : (S1.del mr) b6 = some (.obj 123 [.int .i64 0, .str ByteArray.empty, .int .i64 0]) := by rw [St.del_ne _ _ _ n6]; exact k6
  clear hm1 hat1
  generalize S1.del mr = S2 at *
  intro bi hbi
  conv => whnf
  refine ⟨⟨List (ByteArray × Int), fun _ => [(0, .ref rb 0), (4, .ref b4 0), (6, .ref b6 0), (10, .ref bi 0)],
    fun left S' => (∃ cur, S' = S2.upd bi (.miter cur (encM left))) ∧ (∀ e ∈ left, e ∈ tb) ∧ (∀ e ∈ tb, e ∈ left ∨ ws.head? ≠ some e.1), fun left => left.length⟩,
    ⟨tb, ⟨rfl, rfl, rfl, rfl, trivial⟩, ⟨_, St.leW_refl _, ⟨none, rfl⟩, fun e he => he, fun e he => .inl he⟩⟩, ?_⟩
  rintro left S3 ⟨⟨cur, rfl⟩, h1, h2⟩
  conv => whnf
  refine ⟨cur, encM left, St.upd_same _ _ _, fun hnil => ?_, fun pre kv post hsp => ?_⟩
  · have hnil : left = [] := by simpa [encM] using hnil
    subst hnil
    rw [behindG_miss (fun e he => (h2 e he).resolve_left (by simp))] at hK
    have hat3 := hat2.more hbi (.miter cur (encM []))
    have q4 : (S2.upd bi (.miter cur (encM []))) b4 = some (.obj 123 [.int .i64 kd, .str num, .int .i64 lit]) := St.up hbi k4
    have q6 : (S2.upd bi (.miter cur (encM []))) b6 = some (.obj 123 [.int .i64 0, .str ByteArray.empty, .int .i64 0]) := St.up hbi k6
    conv => whnf
    refine hK _ _ ?_
    clear hK hQ K
    conv => whnf
    refine ⟨_, _, q4, ?_⟩
    conv => whnf
    refine ⟨_, _, q6, ?_⟩
    conv => whnf
    refine ⟨_, _, St.upd_same _ _ _, ?_⟩
    conv => whnf
    exact ⟨_, _, ⟨rfl, t, hat3.put q6 z6 nr6 _⟩, St.le_refl _, AV.leS_refl _ _ _⟩
  · obtain ⟨pre', e, post', hl, rfl, rfl, rfl⟩ : ∃ pre' e post', left = pre' ++ e :: post' ∧ pre = encM pre' ∧ kv = (.str e.1, .int .i64 e.2) ∧ post = encM post' := by
      have h := List.map_eq_append_iff.1 hsp
      obtain ⟨l1, l2, rfl, rfl, h3⟩ := h
      obtain ⟨e, l3, rfl, rfl, rfl⟩ := List.map_eq_cons_iff.1 h3
      exact ⟨l1, e, l3, rfl, rfl, rfl, rfl⟩
    obtain ⟨ky, z⟩ := e
    rw [St.upd_upd, show encM pre' ++ encM post' = encM (pre' ++ post') by simp [encM]]
    have hat3 := hat2.more hbi (.miter (some (.str ky, .int .i64 z)) (encM (pre' ++ post')))
    have q4 : (S2.upd bi (.miter (some (.str ky, .int .i64 z)) (encM (pre' ++ post')))) b4 = some (.obj 123 [.int .i64 kd, .str num, .int .i64 lit]) := St.up hbi k4
    have q6 : (S2.upd bi (.miter (some (.str ky, .int .i64 z)) (encM (pre' ++ post')))) b6 = some (.obj 123 [.int .i64 0, .str ByteArray.empty, .int .i64 0]) := St.up hbi k6
    have qi : (S2.upd bi (.miter (some (.str ky, .int .i64 z)) (encM (pre' ++ post')))) bi = some (.miter (some (.str ky, .int .i64 z)) (encM (pre' ++ post'))) := St.upd_same _ _ _
    have hcs := hat3.at_
    have hnx := rnext_ok (G := G) rb ws _ ky _ hcs
    by_cases hk : ws.head? = some ky
    · rw [decide_eq_true hk] at hnx
      obtain ⟨l, rfl⟩ : ∃ l, ws = ky :: l := by
        cases ws with
        | nil => cases hk
        | cons w l => simp only [List.head?_cons, Option.some.injEq] at hk; exact ⟨l, by rw [hk]⟩
      rw [behindG_hit hnd (h1 (ky, z) (by rw [hl]; simp)) l kd] at hK
      have hat4 := hat3.words (ws' := l)
      have p4 := hat4.at_
      conv => whnf
      refine ⟨_, _, qi, ?_⟩
      conv => whnf
      refine hnx.mono ?_
      rintro o S' ⟨rfl, rfl⟩
      conv => whnf
      refine ⟨_, _, hcs, ?_⟩
      conv => whnf
      refine ⟨⟨by decide, by simp only [rowsS_len, List.length_cons]; omega, by omega⟩, ?_⟩
      conv => whnf
      refine ⟨_, _, hcs, ?_⟩
      rw [words_drop]
      conv => whnf
      refine ⟨_, _, St.ov nr4.symm q4, ?_⟩
      conv => whnf
      refine hK _ _ ?_
      clear hK hQ K
      conv => whnf
      refine ⟨_, _, St.upd_same _ _ _, ?_⟩
      conv => whnf
      refine ⟨_, _, St.ov n64.symm (St.ov nr6.symm q6), ?_⟩
      conv => whnf
      refine ⟨_, _, St.upd_same _ _ _, ?_⟩
      conv => whnf
      refine ⟨_, _, ⟨rfl, t, (hat4.put (St.ov nr4.symm q4) z4 nr4 _).put (St.ov n64.symm (St.ov nr6.symm q6)) z6 nr6 _⟩, St.le_refl _, AV.leS_refl _ _ _⟩
    · rw [decide_eq_false hk] at hnx
      clear hK hQ
      conv => whnf
      refine ⟨_, _, qi, ?_⟩
      conv => whnf
      refine hnx.mono ?_
      rintro o S' ⟨rfl, rfl⟩
      conv => whnf
      refine ⟨pre' ++ post', ⟨rfl, rfl, rfl, rfl, trivial⟩, ⟨_, St.leW_refl _, ⟨_, rfl⟩, fun x hx => h1 x (by rw [hl]; simp at hx ⊢; rcases hx with h | h <;> simp [h]), fun x hx => ?_⟩, by show (pre' ++ post').length < left.length; rw [hl]; simp⟩
      rcases h2 x hx with h | h
      · rw [hl] at h
        simp only [List.mem_append, List.mem_cons] at h
        rcases h with h | rfl | h
        · exact .inl (by simp [h])
        · exact .inr hk
        · exact .inl (by simp [h])
      · exact .inr h
end Go.Proofs.YtcpdgnkhkdddhaaGreatDoor.Aw

set_option maxRecDepth 100000
set_option linter.unusedVariables false
set_option linter.unusedSimpArgs false
namespace Go.Proofs.YtcpdgnkhkdddhaaGreatDoor.Aw
open Go Go.RowKit
variable {G : Nat → Option (List AV)}

def plusS : ByteArray := ⟨#[43]⟩
def sS : ByteArray := ⟨#[115]⟩
def tbN : List (ByteArray × Int) := [(⟨#[42]⟩, 4), (⟨#[100]⟩, 5)]
def tbL : List (ByteArray × Int) := [(⟨#[119]⟩, 7)]
def opG (ws : List ByteArray) : (Int × ByteArray × Int) × Int × List ByteArray :=
  match ws with
  | [] => ((0, ByteArray.empty, 0), 82, [])
  | w :: l =>
    if w = plusS then ((3, ByteArray.empty, 0), 0, l)
    else if w = sS then ((6, ByteArray.empty, 0), 0, l)
    else if isNumV w.data.toList 1 = true then (((behindG tbN l 1).1, w, 0), 0, (behindG tbN l 1).2)
    else if isNumV w.data.toList (-1) = true then ((0, ByteArray.empty, 0), 81, l)
    else if 0 < litV w.data.toList then (((behindG tbL l 2).1, ByteArray.empty, litV w.data.toList), 0, (behindG tbL l 2).2)
    else if litV w.data.toList < 0 then ((2, ByteArray.empty, litV w.data.toList), 0, l)
    else ((0, ByteArray.empty, 0), 80, l)
theorem behindG_suffix (tb : List (ByteArray × Int)) (ws : List ByteArray) (k : Int) : (behindG tb ws k).2 <:+ ws := by
  cases ws with
  | nil => exact List.suffix_refl _
  | cons w l =>
    unfold behindG
    dsimp only
    split
    · exact List.suffix_cons _ _
    · exact List.suffix_refl _
theorem opG_suffix (ws : List ByteArray) : (opG ws).2.2 <:+ ws := by
  cases ws with
  | nil => exact List.suffix_refl _
  | cons w l =>
    unfold opG
    dsimp only
    repeat' split
    all_goals first | exact List.suffix_cons _ _ | exact (behindG_suffix _ _ _).trans (List.suffix_cons _ _)
def opAV (o : Int × ByteArray × Int) : AV := .ag [.int .i64 o.1, .str o.2.1, .int .i64 o.2.2]
/-- A row of the walk's own is kept in sight. -/
theorem RdrAt.with {S₀ S : St} {rb x : Nat} {ws : List ByteArray} {v : StepV} {t : Tips} (h : RdrAt S₀ S rb ws v t) {e : TypeId} {cs : List AV} (hx : S x = some (.obj e cs)) (hne : rb ≠ x) : RdrAt (S₀.upd x (.obj e cs)) S rb ws v t := by
  have hk : ∀ b e' k n, S b = some (.tip e' k n) ∧ S₀ b = none → S b = some (.tip e' k n) ∧ (S₀.upd x (.obj e cs)) b = none := fun b e' k n hb => by
    refine ⟨hb.1, ?_⟩
    rw [St.upd_ne _ _ _ _ (fun eb => by subst eb; rw [hx] at hb; cases hb.1)]; exact hb.2
  refine ⟨fun y p hy => ?_, by rw [St.upd_ne _ _ _ _ hne]; exact h.new, h.at_, fun hn => hk _ _ _ _ (h.t3 hn), fun hn => hk _ _ _ _ (h.t4 hn), fun hn => hk _ _ _ _ (h.t6 hn), fun hn => hk _ _ _ _ (h.t7 hn)⟩
  by_cases hyx : y = x
  · subst hyx; rw [St.upd_same] at hy; rw [hx]; exact hy
  · rw [St.upd_ne _ _ _ _ hyx] at hy; exact h.le y p hy
theorem RdrAt.without {S₀ S : St} {rb x : Nat} {ws : List ByteArray} {v : StepV} {t : Tips} {p : Own} (h : RdrAt (S₀.upd x p) S rb ws v t) (hx0 : S₀ x = none) : RdrAt S₀ S rb ws v t := by
  have hn : ∀ b, (S₀.upd x p) b = none → S₀ b = none := fun b hb => by
    by_cases e : b = x
    · subst e; exact hx0
    · rwa [St.upd_ne _ _ _ _ e] at hb
  refine ⟨St.le_trans (St.le_upd' (St.le_refl _) hx0 _) h.le, hn _ h.new, h.at_, fun k => ⟨(h.t3 k).1, hn _ (h.t3 k).2⟩, fun k => ⟨(h.t4 k).1, hn _ (h.t4 k).2⟩, fun k => ⟨(h.t6 k).1, hn _ (h.t6 k).2⟩, fun k => ⟨(h.t7 k).1, hn _ (h.t7 k).2⟩⟩
theorem op_ok (hG : GS G) {S₀ S : St} {rb : Nat} {ws : List ByteArray} {v : StepV} (h : Rdr S₀ S rb ws v) (hw : OkW ws) :
    Triple P (C G) 176 [.ref rb 0] S fun o S' => o = .ret (.tu [opAV (opG ws).1, errAV (opG ws).2.1]) ∧ Rdr S₀ S' rb (opG ws).2.2 v := by
  obtain ⟨t, hat⟩ := h
  refine triple_of_awp (hT G) hm Tryz.func176 rfl (by decide +kernel) rfl (by decide +kernel) (by show 1 ≤ _; decide +kernel) rfl ?_
  refine awp_seq2 fun K hK hQ => ?_
  conv => whnf
  intro b2 hb2
  conv => whnf
  refine hK _ _ ?_
  clear hK hQ K
  have z2 := St.le_none hat.le hb2
  have nr2 : rb ≠ b2 := St.ne_of hb2 hat.at_
  have hat2 := hat.more hb2 (.obj 123 [.int .i64 0, .str ByteArray.empty, .int .i64 0])
  have q2 := St.upd_same S b2 (.obj 123 [.int .i64 0, .str ByteArray.empty, .int .i64 0])
  generalize S.upd b2 (.obj 123 [.int .i64 0, .str ByteArray.empty, .int .i64 0]) = S1 at *
  have hcs := hat2.at_
  have htk := rtake_ok (G := G) rb ws _ _ hcs
  refine awp_seq2 fun K hK hQ => ?_
  cases ws with
  | nil =>
    conv => whnf
    refine htk.mono ?_
    rintro o S' ⟨rfl, rfl⟩
    conv => whnf
    refine hK _ _ ?_
    clear hK hQ K
    conv => whnf
    refine ⟨_, _, q2, ?_⟩
    conv => whnf
    refine ⟨_, _, St.upd_same _ _ _, ?_⟩
    conv => whnf
    exact ⟨_, _, ⟨rfl, t, hat2.put q2 z2 nr2 _⟩, St.le_refl _, AV.leS_refl _ _ _⟩
  | cons w l =>
    have hat3 := hat2.words (ws' := l)
    have hcs3 := hat3.at_
    have hw1 := hw.suffix (List.suffix_cons w l)
    have hws : w.size ≤ 9000000 := hw.1 w (by simp)
    have q2 := St.ov (p := rdr l (stepC v t)) nr2.symm q2
    conv => whnf
    refine htk.mono ?_
    rintro o S' ⟨rfl, rfl⟩
    generalize S1.upd rb (rdr l (stepC v t)) = S3 at *
    clear htk
    conv => whnf
    refine hK _ _ ?_
    clear hK hQ K
    unfold opG
    dsimp only
    refine awp_seq2 fun K hK hQ => ?_
    conv => whnf
    refine hK _ _ ?_
    clear hK hQ K
    refine awp_seq2 fun K hK hQ => ?_
    conv => whnf
    refine (literal_ok hG w hws _).mono ?_
    rintro o S' ⟨rfl, rfl⟩
    generalize litV w.data.toList = z at *
    conv => whnf
    refine hK _ _ ?_
    clear hK hQ K
    refine awp_seq2 fun K hK hQ => ?_
    conv => whnf
    refine split_of (fun hp => ?_) (fun hp => ?_)
    · have h1 : w = plusS := of_decide_eq_true hp
      simp only [if_pos h1] at hQ
      clear hK
      conv => whnf
      refine ⟨_, _, q2, ?_⟩
      conv => whnf
      refine hQ _ _ _ (by simp) ?_
      conv => whnf
      refine ⟨_, _, St.upd_same _ _ _, ?_⟩
      conv => whnf
      exact ⟨_, _, ⟨rfl, t, hat3.put q2 z2 nr2 _⟩, St.le_refl _, AV.leS_refl _ _ _⟩
    have h1 : ¬ w = plusS := of_decide_eq_false hp
    simp only [if_neg h1] at hK hQ
    conv => whnf
    refine split_of (fun hp => ?_) (fun hp => ?_)
    · have h1 : w = sS := of_decide_eq_true hp
      simp only [if_pos h1] at hQ
      clear hK
      conv => whnf
      refine ⟨_, _, q2, ?_⟩
      conv => whnf
      refine hQ _ _ _ (by simp) ?_
      conv => whnf
      refine ⟨_, _, St.upd_same _ _ _, ?_⟩
      conv => whnf
      exact ⟨_, _, ⟨rfl, t, hat3.put q2 z2 nr2 _⟩, St.le_refl _, AV.leS_refl _ _ _⟩
    have h2 : ¬ w = sS := of_decide_eq_false hp
    simp only [if_neg h2] at hK hQ
    conv => whnf
    refine (isNumber_ok w hws 1 (by decide) (by decide) _).mono ?_
    rintro o S' ⟨rfl, rfl⟩
    cases hn1 : isNumV w.data.toList 1 with
    | true =>
      simp only [hn1, if_true] at hQ
      clear hK
      conv => whnf
      intro mr hmr
      conv => whnf
      refine ⟨_, St.upd_same _ _ _, ?_⟩
      conv => whnf
      refine ⟨_, St.upd_same _ _ _, ?_⟩
      conv => whnf
      rw [St.upd_upd, St.upd_upd]
      have hat4 := hat3.more hmr (.mapo (encM tbN))
      have q3 : (S'.upd mr (.mapo (encM tbN))) b2 = some (.obj 123 [.int .i64 0, .str ByteArray.empty, .int .i64 0]) := St.up hmr q2
      have nm2 : mr ≠ b2 := fun e => by subst e; rw [hmr] at q2; cases q2
      have hat4b := hat4.with q3 nr2
      have hb := behind_ok (tb := tbN) (G := G) (by decide) hat4b (by rw [St.upd_ne _ _ _ _ nm2]; exact St.le_none hat3.le hmr) (St.upd_same _ _ _) 1 w 0
      refine hb.mono ?_
      rintro o S'' ⟨rfl, t2, hat5⟩
      have q4 := hat5.le _ _ (St.upd_same _ _ _)
      conv => whnf
      refine ⟨_, _, q4, ?_⟩
      conv => whnf
      refine hQ _ _ _ (by simp) ?_
      conv => whnf
      refine ⟨_, _, St.upd_same _ _ _, ?_⟩
      conv => whnf
      exact ⟨_, _, ⟨rfl, t2, (hat5.without z2).put q4 z2 nr2 _⟩, St.le_refl _, AV.leS_refl _ _ _⟩
    | false =>
      simp only [hn1, Bool.false_eq_true, if_false] at hK hQ
      conv => whnf
      refine (isNumber_ok w hws (-1) (by decide) (by decide) _).mono ?_
      rintro o S' ⟨rfl, rfl⟩
      cases hn2 : isNumV w.data.toList (-1) with
      | true =>
        simp only [hn2, if_true] at hQ
        clear hK
        conv => whnf
        refine (fail_ok 81 _).mono ?_
        rintro o S' ⟨rfl, rfl⟩
        conv => whnf
        refine ⟨_, _, q2, ?_⟩
        conv => whnf
        refine hQ _ _ _ (by simp) ?_
        conv => whnf
        refine ⟨_, _, St.upd_same _ _ _, ?_⟩
        conv => whnf
        exact ⟨_, _, ⟨rfl, t, hat3.put q2 z2 nr2 _⟩, St.le_refl _, AV.leS_refl _ _ _⟩
      | false =>
        simp only [hn2, Bool.false_eq_true, if_false] at hK hQ
        conv => whnf
        refine split_of (fun hz => ?_) (fun hz => ?_)
        · have hz : 0 < z := by have := of_decide_eq_true hz; omega
          simp only [if_pos hz] at hQ
          clear hK
          conv => whnf
          intro mr hmr
          conv => whnf
          refine ⟨_, St.upd_same _ _ _, ?_⟩
          conv => whnf
          rw [St.upd_upd]
          have hat4 := hat3.more hmr (.mapo (encM tbL))
          have q3 : (S'.upd mr (.mapo (encM tbL))) b2 = some (.obj 123 [.int .i64 0, .str ByteArray.empty, .int .i64 0]) := St.up hmr q2
          have nm2 : mr ≠ b2 := fun e => by subst e; rw [hmr] at q2; cases q2
          have hat4b := hat4.with q3 nr2
          have hb := behind_ok (tb := tbL) (G := G) (by decide) hat4b (by rw [St.upd_ne _ _ _ _ nm2]; exact St.le_none hat3.le hmr) (St.upd_same _ _ _) 2 ByteArray.empty z
          refine hb.mono ?_
          rintro o S'' ⟨rfl, t2, hat5⟩
          have q4 := hat5.le _ _ (St.upd_same _ _ _)
          conv => whnf
          refine ⟨_, _, q4, ?_⟩
          conv => whnf
          refine hQ _ _ _ (by simp) ?_
          conv => whnf
          refine ⟨_, _, St.upd_same _ _ _, ?_⟩
          conv => whnf
          exact ⟨_, _, ⟨rfl, t2, (hat5.without z2).put q4 z2 nr2 _⟩, St.le_refl _, AV.leS_refl _ _ _⟩
        have hz : ¬ 0 < z := by have := of_decide_eq_false hz; omega
        simp only [if_neg hz] at hK hQ
        conv => whnf
        refine split_of (fun hz2 => ?_) (fun hz2 => ?_)
        · have hz2 : z < 0 := of_decide_eq_true hz2
          simp only [if_pos hz2] at hQ
          clear hK
          conv => whnf
          refine ⟨_, _, q2, ?_⟩
          conv => whnf
          refine hQ _ _ _ (by simp) ?_
          conv => whnf
          refine ⟨_, _, St.upd_same _ _ _, ?_⟩
          conv => whnf
          exact ⟨_, _, ⟨rfl, t, hat3.put q2 z2 nr2 _⟩, St.le_refl _, AV.leS_refl _ _ _⟩
        have hz2 : ¬ z < 0 := of_decide_eq_false hz2
        simp only [if_neg hz2] at hK
        conv => whnf
        refine hK _ _ ?_
        clear hK hQ K
        conv => whnf
        refine (fail_ok 80 _).mono ?_
        rintro o S' ⟨rfl, rfl⟩
        conv => whnf
        refine ⟨_, _, q2, ?_⟩
        conv => whnf
        refine ⟨_, _, St.upd_same _ _ _, ?_⟩
        conv => whnf
        exact ⟨_, _, ⟨rfl, t, hat3.put q2 z2 nr2 _⟩, St.le_refl _, AV.leS_refl _ _ _⟩
end Go.Proofs.YtcpdgnkhkdddhaaGreatDoor.Aw

set_option maxRecDepth 100000
set_option linter.unusedVariables false
set_option linter.unusedSimpArgs false
namespace Go.Proofs.YtcpdgnkhkdddhaaGreatDoor.Aw
open Go Go.RowKit
variable {G : Nat → Option (List AV)}

abbrev OpV := Int × ByteArray × Int
def polF : Nat → List ByteArray → List OpV → List OpV × Int × List ByteArray
  | 0, ws, ops => (ops, 0, ws)
  | f + 1, ws, ops => if ops = [] ∨ ws ≠ [] then (if (opG ws).2.1 = 0 then polF f (opG ws).2.2 (ops ++ [(opG ws).1]) else (ops, (opG ws).2.1, (opG ws).2.2)) else (ops, 0, ws)
def polG (ws : List ByteArray) (v : StepV) : RetG := ((polF (ws.length + 2) ws v.ops).2.1, (polF (ws.length + 2) ws v.ops).2.2, { v with kind := 3, ops := (polF (ws.length + 2) ws v.ops).1 })
theorem opG_lt (ws : List ByteArray) (h : (opG ws).2.1 = 0) : (opG ws).2.2.length < ws.length := by
  cases ws with
  | nil => simp [opG] at h
  | cons w l =>
    have : (opG (w :: l)).2.2 <:+ l := by
      unfold opG
      dsimp only
      repeat' split
      all_goals first | exact List.suffix_refl _ | exact behindG_suffix _ _ _
    have := this.length_le
    simp only [List.length_cons]; omega
theorem rowsO_snoc (l : List OpV) (x : OpV) : rowsO l ++ [[.int .i64 x.1, .str x.2.1, .int .i64 x.2.2]] = rowsO (l ++ [x]) := by simp [rowsO]
theorem pol_ok (hG : GS G) {S₀ S : St} {rb : Nat} {ws : List ByteArray} {v : StepV} (h : Rdr S₀ S rb ws v) (hw : OkW ws) (hv : OkV v) :
    Triple P (C G) 145 [.ref rb 0] S fun o S' => o = .ret (errAV (polG ws v).1) ∧ Rdr S₀ S' rb (polG ws v).2.1 (polG ws v).2.2 := by
  obtain ⟨t, hat⟩ := h
  have hcs := hat.at_
  have hat2 := hat.set (v' := { v with kind := 3 }) (ws' := ws) rfl rfl rfl rfl
  unfold polG
  refine triple_of_awp (hT G) hm Tryz.func145 rfl (by decide +kernel) rfl (by decide +kernel) (by show 1 ≤ _; decide +kernel) rfl ?_
  refine awp_seq2 fun K hK hQ => ?_
  conv => whnf
  refine hK _ _ ?_
  clear hK hQ K
  refine awp_seq2 fun K hK hQ => ?_
  conv => whnf
  refine ⟨_, _, hcs, ?_⟩
  conv => whnf
  refine hK _ _ ?_
  clear hK hQ K
  refine awp_seq2 fun K hK hQ => ?_
  conv => whnf
  refine ⟨⟨Nat × List ByteArray × List OpV, fun _ => [(0, .ref rb 0)],
    fun x S' => Rdr S₀ S' rb x.2.1 { v with kind := 3, ops := x.2.2 } ∧ polF x.1 x.2.1 x.2.2 = polF (ws.length + 2) ws v.ops ∧ x.2.1.length < x.1 ∧ x.2.1.length + x.2.2.length ≤ 10000000 ∧ OkW x.2.1, fun x => x.2.1.length⟩,
    ⟨(ws.length + 2, ws, v.ops), ⟨rfl, trivial⟩, ⟨_, St.leW_refl _, ⟨t, hat2⟩, rfl, by show ws.length < ws.length + 2; omega, by have := hw.2; have := hv.1; show ws.length + v.ops.length ≤ _; omega, hw⟩⟩, ?_⟩
  rintro ⟨f, l, ops⟩ S1 ⟨⟨t1, hat3⟩, h2, h3, h4, h5⟩
  dsimp only at hat3 h2 h3 h4 h5
  have hcs3 := hat3.at_
  obtain ⟨f, rfl⟩ : ∃ f', f = f' + 1 := ⟨f - 1, by omega⟩
  rw [← h2] at hK hQ ⊢
  clear h2
  by_cases hgo : ops = [] ∨ l ≠ []
  · simp only [polF, if_pos hgo] at hK hQ ⊢
    have hop := op_ok (G := G) hG ⟨t1, hat3⟩ h5
    have hlt := opG_lt l
    have hsf := h5.suffix (opG_suffix l)
    generalize (opG l).1 = o at *
    generalize (opG l).2.1 = e at *
    generalize (opG l).2.2 = l2 at *
    cases ops with
    | nil =>
      conv => whnf
      refine ⟨_, _, hcs3, ?_⟩
      conv => whnf
      intro _
      conv => whnf
      refine hop.mono ?_
      rintro o' S2 ⟨rfl, t2, hat4⟩
      by_cases he : e = 0
      · simp only [if_pos he] at hK hQ ⊢
        simp only [errAV, if_pos he]
        have hlt := hlt he
        conv => whnf
        intro b3 hb3
        conv => whnf
        refine ⟨_, _, St.upd_same _ _ _, ?_⟩
        conv => whnf
        rw [St.upd_upd]
        have hat5 := hat4.more hb3 (.obj 123 [.int .i64 o.1, .str o.2.1, .int .i64 o.2.2])
        have q3 := St.upd_same S2 b3 (.obj 123 [.int .i64 o.1, .str o.2.1, .int .i64 o.2.2])
        generalize S2.upd b3 (.obj 123 [.int .i64 o.1, .str o.2.1, .int .i64 o.2.2]) = S3 at *
        have hcs5 := hat5.at_
        refine ⟨[], (.free 0 (.free 1 (.free 2 (.free 3 (.free 4 (.free 5 (.free 6 (.one 7 (.one 8 (.free 9 (.free 10 (.free 11 (.one 12 .done .none)))) .none) .none)))))))), _, by decide +kernel, ?_, fun _ _ h => ⟨_, .inl rfl, h⟩⟩
        conv => whnf
        refine ⟨_, _, hcs5, ?_⟩
        conv => whnf
        refine ⟨_, _, q3, ?_⟩
        conv => whnf
        intro bb hbb
        have hat6 := hat5.more hbb (.tip 123 3 1)
        conv => whnf
        refine ⟨⟨fun hl => ?_, ?_⟩, fun S4 c1 c2 b' c3 => ?_⟩
        · have : 0 < (([] : List OpV)).length := by
            cases hx : (([] : List OpV) : List OpV) with
            | nil => rw [hx] at hl; exact absurd rfl hl
            | cons _ _ => simp
          rw [rowsO_len]; exact (hat6.t3 this).1
        · show ((rowsO (([] : List OpV))).length + 1) * 32 ≤ _
          rw [rowsO_len]; first | (simp at h4 ⊢; done) | (simp at h4 ⊢; omega)
        have ha : AccStep (_ : St) t2.b3 123 3 (([] : List OpV)).length 1 b' (S4.upd b' (.tip 123 3 ((([] : List OpV)).length + 1))) := .inr ⟨by simp, S4, fun e => c1 (by rw [List.eq_nil_of_length_eq_zero e]; rfl), fun e => c2 (by intro hh; have h' : (([] : List OpV) : List OpV).length = 0 := (rowsO_len _).symm.trans (congrArg List.length hh); omega), c3, rfl⟩
        obtain ⟨k1, k2⟩ := hat6.push3 ha (new := [o]) rfl
        rw [show rowsO ({ v with kind := 3, ops := ([] : List OpV) } : StepV).ops ++ [[AV.int .i64 o.1, AV.str o.2.1, AV.int .i64 o.2.2]] = rowsO (([] : List OpV) ++ [o]) from rowsO_snoc (([] : List OpV)) o, show (rowsO ({ v with kind := 3, ops := ([] : List OpV) } : StepV).ops).length = (([] : List OpV)).length from rowsO_len (([] : List OpV))]
        conv => whnf
        refine ⟨_, _, k1, ?_⟩
        conv => whnf
        refine ⟨(f, l2, ([] : List OpV) ++ [o]), ⟨rfl, trivial⟩, ⟨_, St.leW_refl _, ⟨_, k2⟩, ?_, ?_, ?_, hsf⟩, ?_⟩
        · rfl
        · show l2.length < f
          omega
        · show l2.length + (([] : List OpV) ++ [o]).length ≤ _
          try simp at hlt
          simp at h4 ⊢; omega
        · show l2.length < _
          exact hlt
      · simp only [if_neg he] at hQ
        simp only [errAV, if_neg he] at hQ ⊢
        clear hK
        conv => whnf
        intro b3 hb3
        conv => whnf
        refine ⟨_, _, St.upd_same _ _ _, ?_⟩
        conv => whnf
        refine hQ _ _ _ (by simp) ?_
        conv => whnf
        exact ⟨_, _, ⟨rfl, t2, by rw [St.upd_upd]; exact hat4.more hb3 _⟩, St.le_refl _, AV.leS_refl _ _ _⟩
    | cons o1 ops =>
      cases l with
      | nil => exact absurd hgo (by simp)
      | cons w l =>
        conv => whnf
        refine ⟨_, _, hcs3, ?_⟩
        conv => whnf
        intro _
        conv => whnf
        refine ⟨_, _, hcs3, ?_⟩
        conv => whnf
        intro _
        refine split_of (fun hh => ?_) (fun hh => by simp [rowsS] at hh)
        refine hop.mono ?_
        rintro o' S2 ⟨rfl, t2, hat4⟩
        by_cases he : e = 0
        · simp only [if_pos he] at hK hQ ⊢
          simp only [errAV, if_pos he]
          have hlt := hlt he
          conv => whnf
          intro b3 hb3
          conv => whnf
          refine ⟨_, _, St.upd_same _ _ _, ?_⟩
          conv => whnf
          rw [St.upd_upd]
          have hat5 := hat4.more hb3 (.obj 123 [.int .i64 o.1, .str o.2.1, .int .i64 o.2.2])
          have q3 := St.upd_same S2 b3 (.obj 123 [.int .i64 o.1, .str o.2.1, .int .i64 o.2.2])
          generalize S2.upd b3 (.obj 123 [.int .i64 o.1, .str o.2.1, .int .i64 o.2.2]) = S3 at *
          have hcs5 := hat5.at_
          refine ⟨[], (.free 0 (.free 1 (.free 2 (.free 3 (.free 4 (.free 5 (.free 6 (.one 7 (.one 8 (.free 9 (.free 10 (.free 11 (.one 12 .done .none)))) .none) .none)))))))), _, by decide +kernel, ?_, fun _ _ h => ⟨_, .inl rfl, h⟩⟩
          conv => whnf
          refine ⟨_, _, hcs5, ?_⟩
          conv => whnf
          refine ⟨_, _, q3, ?_⟩
          conv => whnf
          intro bb hbb
          have hat6 := hat5.more hbb (.tip 123 3 1)
          conv => whnf
          refine ⟨⟨fun hl => ?_, ?_⟩, fun S4 c1 c2 b' c3 => ?_⟩
          · have : 0 < ((o1 :: ops)).length := by
              cases hx : ((o1 :: ops) : List OpV) with
              | nil => rw [hx] at hl; exact absurd rfl hl
              | cons _ _ => simp
            rw [rowsO_len]; exact (hat6.t3 this).1
          · show ((rowsO ((o1 :: ops))).length + 1) * 32 ≤ _
            rw [rowsO_len]; first | (simp at h4 ⊢; done) | (simp at h4 ⊢; omega)
          have ha : AccStep (_ : St) t2.b3 123 3 ((o1 :: ops)).length 1 b' (S4.upd b' (.tip 123 3 (((o1 :: ops)).length + 1))) := .inr ⟨by simp, S4, fun e => c1 (by rw [List.eq_nil_of_length_eq_zero e]; rfl), fun e => c2 (by intro hh; have h' : ((o1 :: ops) : List OpV).length = 0 := (rowsO_len _).symm.trans (congrArg List.length hh); omega), c3, rfl⟩
          obtain ⟨k1, k2⟩ := hat6.push3 ha (new := [o]) rfl
          rw [show rowsO ({ v with kind := 3, ops := (o1 :: ops) } : StepV).ops ++ [[AV.int .i64 o.1, AV.str o.2.1, AV.int .i64 o.2.2]] = rowsO ((o1 :: ops) ++ [o]) from rowsO_snoc ((o1 :: ops)) o, show (rowsO ({ v with kind := 3, ops := (o1 :: ops) } : StepV).ops).length = ((o1 :: ops)).length from rowsO_len ((o1 :: ops))]
          conv => whnf
          refine ⟨_, _, k1, ?_⟩
          conv => whnf
          refine ⟨(f, l2, (o1 :: ops) ++ [o]), ⟨rfl, trivial⟩, ⟨_, St.leW_refl _, ⟨_, k2⟩, ?_, ?_, ?_, hsf⟩, ?_⟩
          · rfl
          · show l2.length < f
            omega
          · show l2.length + ((o1 :: ops) ++ [o]).length ≤ _
            try simp at hlt
            simp at h4 ⊢; omega
          · show l2.length < _
            exact hlt
        · simp only [if_neg he] at hQ
          simp only [errAV, if_neg he] at hQ ⊢
          clear hK
          conv => whnf
          intro b3 hb3
          conv => whnf
          refine ⟨_, _, St.upd_same _ _ _, ?_⟩
          conv => whnf
          refine hQ _ _ _ (by simp) ?_
          conv => whnf
          exact ⟨_, _, ⟨rfl, t2, by rw [St.upd_upd]; exact hat4.more hb3 _⟩, St.le_refl _, AV.leS_refl _ _ _⟩
  · have ho : ops ≠ [] := fun e => hgo (.inl e)
    have hl : l = [] := by
      cases l with
      | nil => rfl
      | cons _ _ => exact absurd (.inr (by simp)) hgo
    subst hl
    simp only [polF, if_neg hgo] at hK hQ
    conv => whnf
    refine ⟨_, _, hcs3, ?_⟩
    conv => whnf
    intro _
    cases ops with
    | nil => exact absurd rfl ho
    | cons o ops =>
      conv => whnf
      refine ⟨_, _, hcs3, ?_⟩
      conv => whnf
      intro _
      conv => whnf
      refine hK _ _ ?_
      clear hK hQ K
      conv => whnf
      exact ⟨_, _, ⟨rfl, t1, hat3⟩, St.le_refl _, AV.leS_refl _ _ _⟩
end Go.Proofs.YtcpdgnkhkdddhaaGreatDoor.Aw

set_option maxRecDepth 100000
set_option linter.unusedVariables false
set_option linter.unusedSimpArgs false
namespace Go.Proofs.YtcpdgnkhkdddhaaGreatDoor.Aw
open Go Go.RowKit
variable {G : Nat → Option (List AV)}

theorem AccOk.over {S S₁ : St} {e : TypeId} {k b n : Nat} (h : AccOk S S₁ e k b n) {x : Nat} {o : Own} (hx : S x = some o) (p : Own) : AccOk (S.upd x p) (S₁.upd x p) e k b n := by
  have hne : 0 < n → b ≠ x := fun hn e => by have := h.new hn; rw [e, hx] at this; cases this
  exact ⟨St.le_upd2 h.le _ _, fun hn => by rw [St.upd_ne _ _ _ _ (hne hn)]; exact h.tip hn, fun hn => by rw [St.upd_ne _ _ _ _ (hne hn)]; exact h.new hn⟩
/-- A literal is no number. -/
theorem lit_not_num {l : List UInt8} (h : litV l ≠ 0) : parseI l = none := by
  rw [litV_val] at h
  cases l with
  | nil => exact absurd (by rfl) h
  | cons c r =>
    have hc : c = 126 ∨ c = 120 := by
      by_cases h1 : c = 126
      · exact .inl h1
      · have h2 : Lib.hasPrefix (c :: r) [126] = false := by
          cases hh : Lib.hasPrefix (c :: r) [126] with
          | false => rfl
          | true => exact absurd ((hasPrefix_cons _ _ _).1 hh) h1
        rw [trimPrefix_no h2] at h
        by_cases h3 : Lib.hasPrefix (c :: r) [120] = true
        · exact .inr ((hasPrefix_cons _ _ _).1 h3)
        · rw [if_neg h3] at h; exact absurd rfl h
    have h45 : Lib.hasPrefix (c :: r) [45] = false := by
      cases hh : Lib.hasPrefix (c :: r) [45] with
      | false => rfl
      | true =>
        have := (hasPrefix_cons _ _ _).1 hh
        rcases hc with rfl | rfl <;> cases this
    unfold parseI
    rw [trimPrefix_no h45]
    refine if_pos (.inr (.inr ?_))
    rcases hc with rfl | rfl <;> simp [digitB]
theorem num_iff (l : List UInt8) (low : Int) : isNumV l low = true ↔ ∃ z, parseI l = some z ∧ (low < 0 ∨ low ≤ z) := by
  unfold isNumV
  cases parseI l with
  | none => simp
  | some z => simp
def starS' : ByteArray := ⟨#[42]⟩
def dS' : ByteArray := ⟨#[100]⟩
def wS' : ByteArray := ⟨#[119]⟩
/-- What one word, and the one behind it, make. -/
theorem opG_lit {w : ByteArray} {l : List ByteArray} (hp : w ≠ plusS) (hs : w ≠ sS) (hz : litV w.data.toList ≠ 0) :
    opG (w :: l) = if 0 < litV w.data.toList ∧ l.head? = some wS' then ((7, ByteArray.empty, litV w.data.toList), 0, l.tail) else ((2, ByteArray.empty, litV w.data.toList), 0, l) := by
  have hn := lit_not_num hz
  have h1 : ∀ low, ¬ isNumV w.data.toList low = true := fun low h => by
    obtain ⟨z, h, _⟩ := (num_iff _ _).1 h
    rw [hn] at h; cases h
  unfold opG
  dsimp only
  rw [if_neg hp, if_neg hs, if_neg (h1 1), if_neg (h1 (-1))]
  by_cases hpos : 0 < litV w.data.toList
  · rw [if_pos hpos]
    cases l with
    | nil => rw [if_neg (by simp)]; rfl
    | cons x l =>
      by_cases hx : x = wS'
      · subst hx
        rw [if_pos ⟨hpos, rfl⟩]
        rfl
      · rw [if_neg (by simp [hx])]
        have : behindG tbL (x :: l) 2 = (2, x :: l) := by
          unfold behindG tbL
          have hne : ¬ ((⟨#[119]⟩ : ByteArray) = x) := fun e => hx e.symm
          simp [hne]
        rw [this]
  · rw [if_neg hpos, if_pos (by omega), if_neg (fun h => hpos h.1)]
theorem opG_num {w : ByteArray} {l : List ByteArray} (hp : w ≠ plusS) (hs : w ≠ sS) {z : Int} (hz : parseI w.data.toList = some z) (h1 : 1 ≤ z) :
    opG (w :: l) = if l.head? = some starS' then ((4, w, 0), 0, l.tail) else if l.head? = some dS' then ((5, w, 0), 0, l.tail) else ((1, w, 0), 0, l) := by
  unfold opG
  dsimp only
  rw [if_neg hp, if_neg hs, if_pos ((num_iff _ _).2 ⟨z, hz, .inr h1⟩)]
  cases l with
  | nil => rw [if_neg (by simp), if_neg (by simp)]; rfl
  | cons x l =>
    by_cases hx : x = starS'
    · subst hx
      rw [show behindG tbN (starS' :: l) 1 = (4, l) from rfl]; simp
    · rw [if_neg (by simpa using hx)]
      by_cases hy : x = dS'
      · subst hy
        rw [show behindG tbN (dS' :: l) 1 = (5, l) from rfl]; simp
      · rw [if_neg (by simpa using hy)]
        have : behindG tbN (x :: l) 1 = (1, x :: l) := by
          unfold behindG tbN
          have hne : ¬ ((⟨#[42]⟩ : ByteArray) = x) := fun e => hx e.symm
          have hne2 : ¬ ((⟨#[100]⟩ : ByteArray) = x) := fun e => hy e.symm
          simp [hne, hne2]
        rw [this]
theorem opG_low {w : ByteArray} {l : List ByteArray} (hp : w ≠ plusS) (hs : w ≠ sS) {z : Int} (hz : parseI w.data.toList = some z) (h1 : ¬ 1 ≤ z) : opG (w :: l) = ((0, ByteArray.empty, 0), 81, l) := by
  unfold opG
  dsimp only
  rw [if_neg hp, if_neg hs, if_neg (fun h => by
    obtain ⟨y, hy, h⟩ := (num_iff _ _).1 h
    rw [hz] at hy; cases hy; omega), if_pos ((num_iff _ _).2 ⟨z, hz, .inl (by omega)⟩)]
theorem opG_bad {w : ByteArray} {l : List ByteArray} (hp : w ≠ plusS) (hs : w ≠ sS) (hz : parseI w.data.toList = none) (h1 : litV w.data.toList = 0) : opG (w :: l) = ((0, ByteArray.empty, 0), 80, l) := by
  have hn : ∀ low, ¬ isNumV w.data.toList low = true := fun low h => by
    obtain ⟨z, h, _⟩ := (num_iff _ _).1 h
    rw [hz] at h; cases h
  unfold opG
  dsimp only
  rw [if_neg hp, if_neg hs, if_neg (hn 1), if_neg (hn (-1)), if_neg (by omega), if_neg (by omega)]
theorem ops_ok1 {S : St} {rb : Nat} {ws0 : List ByteArray} (h : S rb = some (rdO ws0 0)) (hw0 : ∀ w ∈ ws0, w.size ≤ 9000000) (hn0 : ws0.length ≤ 9000000) :
    Triple P (C G) 113 [.ref rb 0] S fun o S' => o = .ret (.sl .any 3 (rowsO (polF (ws0.length + 2) ws0 []).1)) ∧ S' = S.upd rb (rdO (polF (ws0.length + 2) ws0 []).2.2 (polF (ws0.length + 2) ws0 []).2.1) := by
  obtain ⟨W, hWW⟩ : ∃ W, polF (ws0.length + 2) ws0 [] = W := ⟨_, rfl⟩
  rw [hWW]
  cases ws0 with
  | nil =>
    have hm0 := more_ok (G := G) h
    rw [show moreR [] 0 = false from by simp [moreR]] at hm0
    have hf82 := rfail_ok (G := G) h 82
    rw [if_pos rfl] at hf82
    have hW2 : W = ([], 82, []) := by rw [← hWW]; rfl
    subst hW2
    have hm1 := more_ok (G := G) (S := S.upd rb (rdO [] 82)) (rb := rb) (ws := []) (e := 82) (St.upd_same _ _ _)
    rw [show moreR [] 82 = false from by simp [moreR]] at hm1
    clear hWW
    refine triple_of_awp (hT G) hm Tryz.func113 rfl (by decide +kernel) rfl (by decide +kernel) (by show 1 ≤ _; decide +kernel) rfl ?_
    refine awp_seq2 fun K hK hQ => ?_
    conv => whnf
    refine hK _ _ ?_
    clear hK hQ K
    refine awp_seq2 fun K hK hQ => ?_
    conv => whnf
    refine hK _ _ ?_
    clear hK hQ K
    refine awp_seq2 fun K hK hQ => ?_
    conv => whnf
    refine hm0.mono ?_
    rintro o T ⟨rfl, rfl⟩
    conv => whnf
    refine hf82.mono ?_
    rintro o T2 ⟨rfl, rfl⟩
    conv => whnf
    refine hK _ _ ?_
    clear hK hQ K
    refine awp_seq2 fun K hK hQ => ?_
    conv => whnf
    refine ⟨⟨Nat, fun i => [(0, .ref rb 0), (3, .nils)], fun i S' => S' = T.upd rb (rdO [] 82), fun i => i⟩, ⟨0, ⟨rfl, rfl, trivial⟩, _, St.leW_refl _, rfl⟩, ?_⟩
    rintro (i : Nat) S' rfl
    conv => whnf
    refine hm1.mono ?_
    rintro o T2 ⟨rfl, rfl⟩
    conv => whnf
    refine hK _ _ ?_
    clear hK hQ K
    conv => whnf
    exact ⟨_, _, ⟨rfl, rfl⟩, St.le_refl _, rfl⟩
  | cons w0 l0 =>
    have hm0 := more_ok (G := G) h
    rw [show moreR (w0 :: l0) 0 = true from by simp [moreR]] at hm0
    refine triple_of_awp (hT G) hm Tryz.func113 rfl (by decide +kernel) rfl (by decide +kernel) (by show 1 ≤ _; decide +kernel) rfl ?_
    refine awp_seq2 fun K hK hQ => ?_
    conv => whnf
    refine hK _ _ ?_
    clear hK hQ K
    refine awp_seq2 fun K hK hQ => ?_
    conv => whnf
    refine hK _ _ ?_
    clear hK hQ K
    refine awp_seq2 fun K hK hQ => ?_
    conv => whnf
    refine hm0.mono ?_
    rintro o T ⟨rfl, rfl⟩
    conv => whnf
    refine hK _ _ ?_
    clear hK hQ K
    refine awp_seq2 fun K hK hQ => ?_
    conv => whnf
    refine ⟨⟨Nat × List ByteArray × Int × List OpV × Nat, fun x => [(0, .ref rb 0), (3, .sl (.acc x.2.2.2.2) 3 (rowsO x.2.2.2.1))],
      fun x S1 => AccOk (T.upd rb (rdO x.2.1 x.2.2.1)) S1 123 3 x.2.2.2.2 x.2.2.2.1.length ∧ x.2.2.2.1.length + x.2.1.length ≤ 9000000 ∧ (∀ w ∈ x.2.1, w.size ≤ 9000000) ∧
        (x.2.2.1 = 0 → polF x.1 x.2.1 x.2.2.2.1 = W ∧ x.2.1.length < x.1 ∧ (x.2.2.2.1 ≠ [] ∨ x.2.1 ≠ [])) ∧ (x.2.2.1 ≠ 0 → (x.2.2.2.1, x.2.2.1, x.2.1) = W), fun x => x.2.1.length + (if x.2.2.1 = 0 then 1 else 0)⟩,
      ⟨((w0 :: l0).length + 2, w0 :: l0, 0, [], 0), ⟨rfl, rfl, trivial⟩, _, St.leW_refl _, by rw [St.upd_id h]; exact AccOk.init _ _ _ _, by simpa using hn0, hw0, fun _ => ⟨hWW, by dsimp only; omega, .inr (by simp)⟩, fun h => absurd rfl h⟩, ?_⟩
    rintro ⟨f, ws, e, acc, ba⟩ S1 ⟨g1, g2, g3, g4, g5⟩
    dsimp only at g1 g2 g3 g4 g5
    have q1 : S1 rb = some (rdO ws e) := g1.le _ _ (St.upd_same _ _ _)
    have hm1 := more_ok (G := G) q1
    cases hmr : moreR ws e with
    | false =>
      rw [hmr] at hm1
      have hfin : (acc, e, ws) = W := by
        by_cases he : e = 0
        · subst he
          obtain ⟨a1, a2, a3⟩ := g4 rfl
          have hws : ws = [] := by simpa [moreR] using hmr
          subst hws
          obtain ⟨g, rfl⟩ : ∃ g, f = g + 1 := ⟨f - 1, by omega⟩
          unfold polF at a1
          rw [if_neg (by simpa using a3)] at a1
          exact a1
        · exact g5 he
      subst hfin
      conv => whnf
      refine hm1.mono ?_
      rintro o T2 ⟨rfl, rfl⟩
      conv => whnf
      refine hK _ _ ?_
      clear hK hQ K
      conv => whnf
      exact ⟨_, _, ⟨rfl, rfl⟩, g1.le, ⟨rfl, rfl⟩⟩
    | true =>
      rw [hmr] at hm1
      have he : e = 0 ∧ ws ≠ [] := by simpa [moreR] using hmr
      obtain ⟨rfl, hne⟩ := he
      obtain ⟨w, l, rfl⟩ := List.exists_cons_of_ne_nil hne
      obtain ⟨hW, hf, _⟩ := g4 rfl
      obtain ⟨g, rfl⟩ : ∃ g, f = g + 1 := ⟨f - 1, by omega⟩
      unfold polF at hW
      rw [if_pos (.inr hne)] at hW
      have ht := rtake_ok1 (G := G) q1
      unfold takeR at ht
      rw [if_pos rfl] at ht
      dsimp only at ht
      have hsz : w.size ≤ 9000000 := g3 w (by simp)
      have hsl : ∀ y ∈ l, y.size ≤ 9000000 := fun y hy => g3 y (by simp [hy])
      have hli := fun S => Lit_ok (G := G) w hsz S
      have hpa := fun S => RParse_ok (G := G) w hsz S
      simp only [List.length_cons] at g2 hf
      have g1' := g1.over (x := rb) (St.upd_same _ _ _) (rdO l 0)
      rw [St.upd_upd] at g1'
      have qT0 : (S1.upd rb (rdO l 0)) rb = some (rdO l 0) := St.upd_same _ _ _
      obtain ⟨z, hz⟩ : ∃ z, litV w.data.toList = z := ⟨_, rfl⟩
      obtain ⟨pv, pk, hpv, hpk⟩ : ∃ pv pk, (parseI w.data.toList).getD 0 = pv ∧ (parseI w.data.toList).isSome = pk := ⟨_, _, rfl, rfl⟩
      obtain ⟨n1, l1, e1⟩ : ∃ n l, refI pv = .ag [.bool n, .sl .any 1 l] := ⟨_, _, rfl⟩
      have hsg := fun S => Sign1_ok (G := G) pv S
      rw [hpv, hpk] at hpa
      rw [e1] at hpa hsg
      rw [hz] at hli
      generalize S1.upd rb (rdO l 0) = T1 at *
      conv => whnf
      refine hm1.mono ?_
      rintro o T2 ⟨rfl, rfl⟩
      conv => whnf
      refine ht.mono ?_
      rintro o T2 ⟨rfl, rfl⟩
      conv => whnf
      refine (hli _).mono ?_
      rintro o T2 ⟨rfl, rfl⟩
      conv => whnf
      refine (hpa _).mono ?_
      rintro o T2 ⟨rfl, rfl⟩
      conv => whnf
      intro b7 hb7
      conv => whnf
      refine ⟨_, _, St.upd_same _ _ _, ?_⟩
      conv => whnf
      rw [St.upd_upd]
      have hTx := g1'.other hb7 (.obj 235 [.bool n1, .sl .any 1 l1])
      have qT := St.up (p := .obj 235 [.bool n1, .sl .any 1 l1]) hb7 qT0
      have q7 := St.upd_same T2 b7 (.obj 235 [.bool n1, .sl .any 1 l1])
      generalize T2.upd b7 (.obj 235 [.bool n1, .sl .any 1 l1]) = TT at *
      clear qT0 g1' hb7
      have hisW := is_ok (G := G) qT wS'
      have hisS := is_ok (G := G) qT starS'
      have hisD := is_ok (G := G) qT dS'
      have hf80 := rfail_ok (G := G) qT 80
      have hf81 := rfail_ok (G := G) qT 81
      rw [if_pos rfl] at hf80 hf81
      have hovr : ∀ ws' e', AccOk (T.upd rb (rdO ws' e')) (TT.upd rb (rdO ws' e')) 123 3 ba acc.length := fun ws' e' => by
        have := hTx.over (x := rb) (St.upd_same _ _ _) (rdO ws' e')
        rw [St.upd_upd] at this
        exact this
      by_cases hp : w = plusS
      · have ho : opG (w :: l) = ((3, ByteArray.empty, 0), 0, l) := by unfold opG; dsimp only; rw [if_pos hp]
        have hW2 : polF g l (acc ++ [(3, ByteArray.empty, 0)]) = W := by rw [ho] at hW; dsimp only at hW; rw [if_pos rfl] at hW; exact hW
        rw [show decide (w = (⟨#[43]⟩ : ByteArray)) = true from decide_eq_true hp]
        conv => whnf
        intro bb hbb
        have hTb := hTx.other hbb (.tip 123 3 1)
        conv => whnf
        refine ⟨⟨fun hl => ?_, ?_⟩, fun S4 c1 c2 b' c3 => ?_⟩
        · have : 0 < acc.length := by cases acc with
            | nil => exact absurd rfl hl
            | cons _ _ => simp
          rw [rowsO_len]; exact hTb.tip this
        · show ((rowsO acc).length + 1) * 32 ≤ _
          rw [rowsO_len]; omega
        have h5 := hTb.push (m := acc.length + 1) (by rw [rowsO_len]) c1 c2 c3 rfl
        rw [rowsO_len]
        conv => whnf
        exact ⟨(g, l, 0, acc ++ [(3, ByteArray.empty, 0)], b'), ⟨rfl, congrArg (AV.sl (.acc b') 3) (by simp [rowsO]; try rfl), trivial⟩, ⟨_, St.leW_refl _, by dsimp only; rw [List.length_append]; exact h5, by simp; omega, hsl, fun _ => ⟨hW2, by simp; omega, .inl (by simp)⟩, fun h => absurd rfl h⟩, by simp <;> omega⟩
      rw [show decide (w = (⟨#[43]⟩ : ByteArray)) = false from decide_eq_false hp]
      conv => whnf
      by_cases hs : w = sS
      · have ho : opG (w :: l) = ((6, ByteArray.empty, 0), 0, l) := by unfold opG; dsimp only; rw [if_neg hp, if_pos hs]
        have hW2 : polF g l (acc ++ [(6, ByteArray.empty, 0)]) = W := by rw [ho] at hW; dsimp only at hW; rw [if_pos rfl] at hW; exact hW
        rw [show decide (w = (⟨#[115]⟩ : ByteArray)) = true from decide_eq_true hs]
        conv => whnf
        intro bb hbb
        have hTb := hTx.other hbb (.tip 123 3 1)
        conv => whnf
        refine ⟨⟨fun hl => ?_, ?_⟩, fun S4 c1 c2 b' c3 => ?_⟩
        · have : 0 < acc.length := by cases acc with
            | nil => exact absurd rfl hl
            | cons _ _ => simp
          rw [rowsO_len]; exact hTb.tip this
        · show ((rowsO acc).length + 1) * 32 ≤ _
          rw [rowsO_len]; omega
        have h5 := hTb.push (m := acc.length + 1) (by rw [rowsO_len]) c1 c2 c3 rfl
        rw [rowsO_len]
        conv => whnf
        exact ⟨(g, l, 0, acc ++ [(6, ByteArray.empty, 0)], b'), ⟨rfl, congrArg (AV.sl (.acc b') 3) (by simp [rowsO]; try rfl), trivial⟩, ⟨_, St.leW_refl _, by dsimp only; rw [List.length_append]; exact h5, by simp; omega, hsl, fun _ => ⟨hW2, by simp; omega, .inl (by simp)⟩, fun h => absurd rfl h⟩, by simp <;> omega⟩
      rw [show decide (w = (⟨#[115]⟩ : ByteArray)) = false from decide_eq_false hs]
      conv => whnf
      have htl : ∀ y ∈ l.tail, y.size ≤ 9000000 := fun y hy => hsl y (List.mem_of_mem_tail hy)
      by_cases hzz : z = 0
      · subst hzz
        rw [show decide ((0 : Int) > 0) = false from rfl]
        conv => whnf
        cases hpz : parseI w.data.toList with
        | none =>
          rw [hpz] at hpk
          subst hpk
          have ho := opG_bad (l := l) hp hs hpz hz
          have hW2 : (acc, (80 : Int), l) = W := by rw [ho] at hW; dsimp only at hW; rw [if_neg (by decide)] at hW; exact hW
          conv => whnf
          refine hf80.mono ?_
          rintro o T3 ⟨rfl, rfl⟩
          conv => whnf
          exact ⟨(g, l, 80, acc, ba), ⟨rfl, rfl, trivial⟩, ⟨_, St.leW_refl _, hovr l 80, by dsimp only; omega, hsl, fun h => absurd (show (80 : Int) = 0 from h) (by decide), fun _ => hW2⟩, by simp <;> omega⟩
        | some z0 =>
          rw [hpz] at hpk hpv
          simp only [Option.getD_some] at hpv
          simp only [Option.isSome_some] at hpk
          subst hpk hpv
          by_cases h1 : 1 ≤ z0
          · have ho := opG_num (l := l) hp hs hpz h1
            have hsv : (if z0 = 0 then (0 : Int) else if z0 < 0 then -1 else 1) = 1 := by rw [if_neg (by omega), if_neg (by omega)]
            rw [hsv] at hsg
            conv => whnf
            refine ⟨_, _, q7, ?_⟩
            conv => whnf
            refine (hsg _).mono ?_
            rintro o T3 ⟨rfl, rfl⟩
            conv => whnf
            refine hisS.mono ?_
            rintro o T3 ⟨rfl, rfl⟩
            by_cases hst : l.head? = some starS'
            · rw [if_pos hst] at ho
              have hW2 : polF g l.tail (acc ++ [(4, w, 0)]) = W := by rw [ho] at hW; dsimp only at hW; rw [if_pos rfl] at hW; exact hW
              have hone := one_ok (G := G) qT starS'
              have hov := hovr l.tail 0
              rw [show oneR starS' l 0 = (l.tail, 0) from by
                cases l with
                | nil => cases hst
                | cons x l => simp at hst; simp [oneR, hst]] at hone
              dsimp only at hone
              rw [show isR l 0 starS' = true from by simp [isR, hst]]
              conv => whnf
              refine hone.mono ?_
              rintro o T4 ⟨rfl, rfl⟩
              conv => whnf
              intro bb hbb
              have hTb := hov.other hbb (.tip 123 3 1)
              conv => whnf
              refine ⟨⟨fun hl => ?_, ?_⟩, fun S4 c1 c2 b' c3 => ?_⟩
              · have : 0 < acc.length := by cases acc with
                  | nil => exact absurd rfl hl
                  | cons _ _ => simp
                rw [rowsO_len]; exact hTb.tip this
              · show ((rowsO acc).length + 1) * 32 ≤ _
                rw [rowsO_len]; omega
              have h5 := hTb.push (m := acc.length + 1) (by rw [rowsO_len]) c1 c2 c3 rfl
              rw [rowsO_len]
              conv => whnf
              exact ⟨(g, l.tail, 0, acc ++ [(4, w, 0)], b'), ⟨rfl, congrArg (AV.sl (.acc b') 3) (by simp [rowsO]; try rfl), trivial⟩, ⟨_, St.leW_refl _, by dsimp only; rw [List.length_append]; exact h5, by simp; omega, htl, fun _ => ⟨hW2, by simp; omega, .inl (by simp)⟩, fun h => absurd rfl h⟩, by simp <;> omega⟩
            · rw [if_neg hst] at ho
              rw [show isR l 0 starS' = false from by simp [isR, hst]]
              conv => whnf
              refine hisD.mono ?_
              rintro o T3 ⟨rfl, rfl⟩
              by_cases hdd : l.head? = some dS'
              · rw [if_pos hdd] at ho
                have hW2 : polF g l.tail (acc ++ [(5, w, 0)]) = W := by rw [ho] at hW; dsimp only at hW; rw [if_pos rfl] at hW; exact hW
                have hone := one_ok (G := G) qT dS'
                have hov := hovr l.tail 0
                rw [show oneR dS' l 0 = (l.tail, 0) from by
                  cases l with
                  | nil => cases hdd
                  | cons x l => simp at hdd; simp [oneR, hdd]] at hone
                dsimp only at hone
                rw [show isR l 0 dS' = true from by simp [isR, hdd]]
                conv => whnf
                refine hone.mono ?_
                rintro o T4 ⟨rfl, rfl⟩
                conv => whnf
                intro bb hbb
                have hTb := hov.other hbb (.tip 123 3 1)
                conv => whnf
                refine ⟨⟨fun hl => ?_, ?_⟩, fun S4 c1 c2 b' c3 => ?_⟩
                · have : 0 < acc.length := by cases acc with
                    | nil => exact absurd rfl hl
                    | cons _ _ => simp
                  rw [rowsO_len]; exact hTb.tip this
                · show ((rowsO acc).length + 1) * 32 ≤ _
                  rw [rowsO_len]; omega
                have h5 := hTb.push (m := acc.length + 1) (by rw [rowsO_len]) c1 c2 c3 rfl
                rw [rowsO_len]
                conv => whnf
                exact ⟨(g, l.tail, 0, acc ++ [(5, w, 0)], b'), ⟨rfl, congrArg (AV.sl (.acc b') 3) (by simp [rowsO]; try rfl), trivial⟩, ⟨_, St.leW_refl _, by dsimp only; rw [List.length_append]; exact h5, by simp; omega, htl, fun _ => ⟨hW2, by simp; omega, .inl (by simp)⟩, fun h => absurd rfl h⟩, by simp <;> omega⟩
              · rw [if_neg hdd] at ho
                have hW2 : polF g l (acc ++ [(1, w, 0)]) = W := by rw [ho] at hW; dsimp only at hW; rw [if_pos rfl] at hW; exact hW
                rw [show isR l 0 dS' = false from by simp [isR, hdd]]
                conv => whnf
                intro bb hbb
                have hTb := hTx.other hbb (.tip 123 3 1)
                conv => whnf
                refine ⟨⟨fun hl => ?_, ?_⟩, fun S4 c1 c2 b' c3 => ?_⟩
                · have : 0 < acc.length := by cases acc with
                    | nil => exact absurd rfl hl
                    | cons _ _ => simp
                  rw [rowsO_len]; exact hTb.tip this
                · show ((rowsO acc).length + 1) * 32 ≤ _
                  rw [rowsO_len]; omega
                have h5 := hTb.push (m := acc.length + 1) (by rw [rowsO_len]) c1 c2 c3 rfl
                rw [rowsO_len]
                conv => whnf
                exact ⟨(g, l, 0, acc ++ [(1, w, 0)], b'), ⟨rfl, congrArg (AV.sl (.acc b') 3) (by simp [rowsO]; try rfl), trivial⟩, ⟨_, St.leW_refl _, by dsimp only; rw [List.length_append]; exact h5, by simp; omega, hsl, fun _ => ⟨hW2, by simp; omega, .inl (by simp)⟩, fun h => absurd rfl h⟩, by simp <;> omega⟩
          · have ho := opG_low (l := l) hp hs hpz h1
            have hW2 : (acc, (81 : Int), l) = W := by rw [ho] at hW; dsimp only at hW; rw [if_neg (by decide)] at hW; exact hW
            have hsv : decide ((if z0 = 0 then (0 : Int) else if z0 < 0 then -1 else 1) < 1) = true := decide_eq_true (by split <;> (try split) <;> omega)
            generalize (if z0 = 0 then (0 : Int) else if z0 < 0 then -1 else 1) = sg at *
            conv => whnf
            refine ⟨_, _, q7, ?_⟩
            conv => whnf
            refine (hsg _).mono ?_
            rintro o T3 ⟨rfl, rfl⟩
            conv => whnf
            rw [hsv]
            conv => whnf
            refine hf81.mono ?_
            rintro o T3 ⟨rfl, rfl⟩
            conv => whnf
            exact ⟨(g, l, 81, acc, ba), ⟨rfl, rfl, trivial⟩, ⟨_, St.leW_refl _, hovr l 81, by dsimp only; omega, hsl, fun h => absurd (show (81 : Int) = 0 from h) (by decide), fun _ => hW2⟩, by simp <;> omega⟩
      · have ho := opG_lit (l := l) hp hs (by rw [hz]; exact hzz)
        rw [hz] at ho
        by_cases hpos : z > 0
        · rw [show decide (z > 0) = true from decide_eq_true hpos]
          conv => whnf
          refine hisW.mono ?_
          rintro o T3 ⟨rfl, rfl⟩
          by_cases hw : l.head? = some wS'
          · rw [if_pos ⟨hpos, hw⟩] at ho
            have hW2 : polF g l.tail (acc ++ [(7, ByteArray.empty, z)]) = W := by rw [ho] at hW; dsimp only at hW; rw [if_pos rfl] at hW; exact hW
            have hone := one_ok (G := G) qT wS'
            have hov := hovr l.tail 0
            rw [show oneR wS' l 0 = (l.tail, 0) from by
              cases l with
              | nil => cases hw
              | cons x l => simp at hw; simp [oneR, hw]] at hone
            dsimp only at hone
            rw [show isR l 0 wS' = true from by simp [isR, hw]]
            conv => whnf
            refine hone.mono ?_
            rintro o T4 ⟨rfl, rfl⟩
            conv => whnf
            intro bb hbb
            have hTb := hov.other hbb (.tip 123 3 1)
            conv => whnf
            refine ⟨⟨fun hl => ?_, ?_⟩, fun S4 c1 c2 b' c3 => ?_⟩
            · have : 0 < acc.length := by cases acc with
                | nil => exact absurd rfl hl
                | cons _ _ => simp
              rw [rowsO_len]; exact hTb.tip this
            · show ((rowsO acc).length + 1) * 32 ≤ _
              rw [rowsO_len]; omega
            have h5 := hTb.push (m := acc.length + 1) (by rw [rowsO_len]) c1 c2 c3 rfl
            rw [rowsO_len]
            conv => whnf
            exact ⟨(g, l.tail, 0, acc ++ [(7, ByteArray.empty, z)], b'), ⟨rfl, congrArg (AV.sl (.acc b') 3) (by simp [rowsO]; try rfl), trivial⟩, ⟨_, St.leW_refl _, by dsimp only; rw [List.length_append]; exact h5, by simp; omega, htl, fun _ => ⟨hW2, by simp; omega, .inl (by simp)⟩, fun h => absurd rfl h⟩, by simp <;> omega⟩
          · rw [if_neg (fun h => hw h.2)] at ho
            have hW2 : polF g l (acc ++ [(2, ByteArray.empty, z)]) = W := by rw [ho] at hW; dsimp only at hW; rw [if_pos rfl] at hW; exact hW
            rw [show isR l 0 wS' = false from by simp [isR, hw]]
            conv => whnf
            rw [show (z != 0) = true from by simpa using hzz]
            conv => whnf
            intro bb hbb
            have hTb := hTx.other hbb (.tip 123 3 1)
            conv => whnf
            refine ⟨⟨fun hl => ?_, ?_⟩, fun S4 c1 c2 b' c3 => ?_⟩
            · have : 0 < acc.length := by cases acc with
                | nil => exact absurd rfl hl
                | cons _ _ => simp
              rw [rowsO_len]; exact hTb.tip this
            · show ((rowsO acc).length + 1) * 32 ≤ _
              rw [rowsO_len]; omega
            have h5 := hTb.push (m := acc.length + 1) (by rw [rowsO_len]) c1 c2 c3 rfl
            rw [rowsO_len]
            conv => whnf
            exact ⟨(g, l, 0, acc ++ [(2, ByteArray.empty, z)], b'), ⟨rfl, congrArg (AV.sl (.acc b') 3) (by simp [rowsO]; try rfl), trivial⟩, ⟨_, St.leW_refl _, by dsimp only; rw [List.length_append]; exact h5, by simp; omega, hsl, fun _ => ⟨hW2, by simp; omega, .inl (by simp)⟩, fun h => absurd rfl h⟩, by simp <;> omega⟩
        · rw [if_neg (fun h => hpos h.1)] at ho
          have hW2 : polF g l (acc ++ [(2, ByteArray.empty, z)]) = W := by rw [ho] at hW; dsimp only at hW; rw [if_pos rfl] at hW; exact hW
          rw [show decide (z > 0) = false from decide_eq_false hpos]
          conv => whnf
          rw [show (z != 0) = true from by simpa using hzz]
          conv => whnf
          intro bb hbb
          have hTb := hTx.other hbb (.tip 123 3 1)
          conv => whnf
          refine ⟨⟨fun hl => ?_, ?_⟩, fun S4 c1 c2 b' c3 => ?_⟩
          · have : 0 < acc.length := by cases acc with
              | nil => exact absurd rfl hl
              | cons _ _ => simp
            rw [rowsO_len]; exact hTb.tip this
          · show ((rowsO acc).length + 1) * 32 ≤ _
            rw [rowsO_len]; omega
          have h5 := hTb.push (m := acc.length + 1) (by rw [rowsO_len]) c1 c2 c3 rfl
          rw [rowsO_len]
          conv => whnf
          exact ⟨(g, l, 0, acc ++ [(2, ByteArray.empty, z)], b'), ⟨rfl, congrArg (AV.sl (.acc b') 3) (by simp [rowsO]; try rfl), trivial⟩, ⟨_, St.leW_refl _, by dsimp only; rw [List.length_append]; exact h5, by simp; omega, hsl, fun _ => ⟨hW2, by simp; omega, .inl (by simp)⟩, fun h => absurd rfl h⟩, by simp <;> omega⟩
end Go.Proofs.YtcpdgnkhkdddhaaGreatDoor.Aw

set_option maxRecDepth 100000
set_option linter.unusedVariables false
set_option linter.unusedSimpArgs false
namespace Go.Proofs.YtcpdgnkhkdddhaaGreatDoor.Aw
open Go Go.RowKit
variable {G : Nat → Option (List AV)}

theorem row_err {S : St} {rb : Nat} {ws : List ByteArray} {e : Int} (h : S rb = some (rdO ws e)) (he : e ≠ 0) (hw : ∀ w ∈ ws, w.size ≤ 9000000) :
    Triple P (C G) 114 [.ref rb 0] S fun o S' => (∃ ps b, o = .ret (.ag [.sl .any 2 (rowsP ps), .str b])) ∧ S' = S := by
  have hne : (e == 0) = false := beq_false_of_ne he
  refine triple_of_awp (hT G) hm Tryz.func114 rfl (by decide +kernel) rfl (by decide +kernel) (by show 1 ≤ _; decide +kernel) rfl ?_
  refine awp_seq2 fun K hK hQ => ?_
  conv => whnf
  intro b2 hb2
  conv => whnf
  refine hK _ _ ?_
  clear hK hQ K
  refine awp_seq2 fun K hK hQ => ?_
  conv => whnf
  intro b3 hb3
  conv => whnf
  refine hK _ _ ?_
  clear hK hQ K
  have q0 : ((S.upd b2 (.obj 51 [.nils, .str ByteArray.empty])).upd b3 (.obj 51 [.nils, .str ByteArray.empty])) rb = some (rdO ws e) := St.up hb3 (St.up hb2 h)
  have q3 := St.upd_same (S.upd b2 (.obj 51 [.nils, .str ByteArray.empty])) b3 (.obj 51 [.nils, .str ByteArray.empty])
  have q2 : ((S.upd b2 (.obj 51 [.nils, .str ByteArray.empty])).upd b3 (.obj 51 [.nils, .str ByteArray.empty])) b2 = some (.obj 51 [.nils, .str ByteArray.empty]) := St.up hb3 (St.upd_same _ _ _)
  have hle := St.le_upd' (St.le_upd' (St.le_refl S) hb2 (.obj 51 [.nils, .str ByteArray.empty])) hb3 (.obj 51 [.nils, .str ByteArray.empty])
  change awp _ _ _ _ ((S.upd b2 (.obj 51 [.nils, .str ByteArray.empty])).upd b3 (.obj 51 [.nils, .str ByteArray.empty])) _
  generalize (S.upd b2 (.obj 51 [.nils, .str ByteArray.empty])).upd b3 (.obj 51 [.nils, .str ByteArray.empty]) = T at *
  have hone1 := one_ok (G := G) q0 geS
  have hone2 := one_ok (G := G) q0 semiS
  have hnum := number1_ok (G := G) q0 hw (-1) (by omega) (by omega)
  rw [show oneR geS ws e = (ws, e) from by unfold oneR; rw [if_neg he]] at hone1
  rw [show oneR semiS ws e = (ws, e) from by unfold oneR; rw [if_neg he]] at hone2
  rw [show numR (-1) ws e = (⟨#[]⟩, e, ws) from by unfold numR; rw [if_neg he]] at hnum
  rw [St.upd_id q0] at hone1 hone2 hnum
  dsimp only at hone1 hone2 hnum
  refine awp_seq2 fun K hK hQ => ?_
  conv => whnf
  refine ⟨⟨Nat, fun i => [(0, .ref rb 0), (2, .ref b2 0), (3, .ref b3 0)], fun i S' => S' = T, fun i => i⟩, ⟨0, ⟨rfl, rfl, rfl, trivial⟩, _, St.leW_refl _, rfl⟩, ?_⟩
  rintro (i : Nat) S' rfl
  conv => whnf
  refine ⟨_, _, q0, ?_⟩
  conv => whnf
  rw [hne]
  conv => whnf
  refine hK _ _ ?_
  clear hK hQ K
  refine awp_seq2 fun K hK hQ => ?_
  conv => whnf
  refine hone1.mono ?_
  rintro o T2 ⟨rfl, rfl⟩
  conv => whnf
  refine hK _ _ ?_
  clear hK hQ K
  refine awp_seq2 fun K hK hQ => ?_
  conv => whnf
  refine hnum.mono ?_
  rintro o T2 ⟨rfl, rfl⟩
  conv => whnf
  refine ⟨_, _, q3, ?_⟩
  conv => whnf
  rw [show (T2.upd b3 (.obj 51 [.nils, .str ⟨#[]⟩])) = T2 from St.upd_id q3]
  refine hK _ _ ?_
  clear hK hQ K
  refine awp_seq2 fun K hK hQ => ?_
  conv => whnf
  refine hone2.mono ?_
  rintro o T2 ⟨rfl, rfl⟩
  conv => whnf
  refine hK _ _ ?_
  clear hK hQ K
  conv => whnf
  refine ⟨_, _, q3, ?_⟩
  conv => whnf
  refine ⟨_, _, q2, ?_⟩
  conv => whnf
  refine ⟨_, _, St.upd_same _ _ _, ?_⟩
  conv => whnf
  refine ⟨_, _, ⟨⟨[], ⟨#[]⟩, rfl⟩, rfl⟩, ?_, ⟨rfl, rfl, rfl⟩⟩
  rw [St.upd_id q2]; exact hle
end Go.Proofs.YtcpdgnkhkdddhaaGreatDoor.Aw

set_option maxRecDepth 100000
set_option linter.unusedVariables false
set_option linter.unusedSimpArgs false
namespace Go.Proofs.YtcpdgnkhkdddhaaGreatDoor.Aw
open Go Go.RowKit
variable {G : Nat → Option (List AV)}

def rowA (sh : Sh) (ps : List (ByteArray × Int)) (b : ByteArray) : Own := .obj 51 [.sl sh 2 (rowsP ps), .str b]
/-- One piece more, or the fault. -/
theorem pieceG_step {ws : List ByteArray} (hw : ws.head? ≠ some geS) (acc : List (ByteArray × Int)) {n : ByteArray × Int × List ByteArray} (hn : numR (-1) ws 0 = n) {li : Int × Int × List ByteArray} (hl : litR n.2.2 n.2.1 = li) :
    (li.2.1 = 0 → pieceG ws acc = pieceG li.2.2 (acc ++ [(n.1, li.1)]) ∧ li.2.2.length + 1 < ws.length) ∧ (li.2.1 ≠ 0 → (pieceG ws acc).2.1 = li.2.1) := by
  subst hl hn
  unfold numR
  rw [if_pos rfl]
  cases ws with
  | nil => simp [numG, litR, pieceG]
  | cons w l =>
    have hw' : w ≠ geS := fun e => hw (by rw [e]; rfl)
    clear hw
    unfold numG
    dsimp only
    by_cases hn : isNumV w.data.toList (-1) = true
    · rw [if_pos hn]
      cases l with
      | nil => simp [litR, rlitG, pieceG, hw', hn]
      | cons x l =>
        unfold litR rlitG
        rw [if_pos rfl, pieceG, if_neg hw', if_pos hn]
        dsimp only
        by_cases hx : litV x.data.toList = 0
        · simp [if_pos hx]
        · simp [if_neg hx]
    · rw [if_neg hn]
      cases l with
      | nil => simp [litR, pieceG, hw', hn]
      | cons x l => simp [litR, pieceG, hw', hn]
theorem numR_suffix (low : Int) (l : List ByteArray) (e : Int) : (numR low l e).2.2 <:+ l := by
  unfold numR; split
  · exact numG_suffix low l
  · exact List.suffix_refl _
theorem litR_suffix (l : List ByteArray) (e : Int) : (litR l e).2.2 <:+ l := by
  unfold litR; split
  · cases l with
    | nil => exact List.suffix_refl _
    | cons w l => unfold rlitG; dsimp only; split <;> exact List.suffix_cons _ _
  · exact List.suffix_refl _
theorem oneR_suffix (w : ByteArray) (l : List ByteArray) (e : Int) : (oneR w l e).1 <:+ l := by
  unfold oneR; split
  · cases l with
    | nil => exact List.suffix_refl _
    | cons x l => exact List.suffix_cons _ _
  · exact List.suffix_refl _
/-- The row's end: what stands behind the pieces. -/
theorem row_tail {v : StepV} {PW : List (ByteArray × Int) × Int × List ByteArray} {R : RetG} (hrow : R = if PW.2.1 = 0 then boundG PW.2.2.tail { v with pieces := PW.1 } else (PW.2.1, PW.2.2, { v with pieces := PW.1 }))
    {ws : List ByteArray} {e : Int} {acc : List (ByteArray × Int)} (h : (e = 0 ∧ ws.head? = some geS ∧ pieceG ws acc = PW) ∨ (e ≠ 0 ∧ PW.2.1 = e))
    {o1 : List ByteArray × Int} (h1 : oneR geS ws e = o1) {n : ByteArray × Int × List ByteArray} (h2 : numR (-1) o1.1 o1.2 = n) {o3 : List ByteArray × Int} (h3 : oneR semiS n.2.2 n.2.1 = o3) :
    o3.2 = R.1 ∧ (R.1 = 0 → o3.1 = R.2.1 ∧ R.2.2 = { v with pieces := acc, bound := n.1 }) := by
  rcases h with ⟨rfl, hg, hP⟩ | ⟨he, hP⟩
  · cases ws with
    | nil => cases hg
    | cons w l =>
      have hw : w = geS := by simpa using hg
      subst hw
      have hp : PW = (acc, 0, geS :: l) := by rw [← hP]; cases l <;> simp [pieceG]
      subst hp
      rw [if_pos rfl] at hrow
      have ho1 : o1 = (l, 0) := by rw [← h1]; simp [oneR]
      subst ho1
      have hn : numG (-1) l = n := by rw [← h2]; simp [numR]
      unfold boundG at hrow
      rw [show (acc, (0 : Int), geS :: l).2.2.tail = l from rfl, hn] at hrow
      by_cases hz : n.2.1 = 0
      · rw [if_pos hz] at hrow
        have hx := wordsR_exact [semiS] n.2.2
        rw [show wordsR [semiS] n.2.2 0 = oneR semiS n.2.2 0 from by simp [wordsR], ← hz, h3] at hx
        rw [hrow, hx]
        exact ⟨rfl, fun _ => ⟨rfl, rfl⟩⟩
      · rw [if_neg hz] at hrow
        have ho : oneR semiS n.2.2 n.2.1 = (n.2.2, n.2.1) := by unfold oneR; rw [if_neg hz]
        rw [ho] at h3
        subst h3 hrow
        exact ⟨rfl, fun h => absurd h hz⟩
  · rw [if_neg (by rw [hP]; exact he)] at hrow
    have e1 : oneR geS ws e = (ws, e) := by unfold oneR; rw [if_neg he]
    rw [e1] at h1
    subst h1
    have e2 : numR (-1) ws e = (⟨#[]⟩, e, ws) := by unfold numR; rw [if_neg he]
    rw [e2] at h2
    subst h2
    have e3 : oneR semiS ws e = (ws, e) := by unfold oneR; rw [if_neg he]
    rw [e3] at h3
    subst h3 hrow
    exact ⟨hP.symm, fun h => absurd (hP.symm.trans h) he⟩
theorem row_ok1 {S : St} {rb : Nat} {ws0 : List ByteArray} (h : S rb = some (rdO ws0 0)) (hw0 : ∀ w ∈ ws0, w.size ≤ 9000000) (hn0 : ws0.length ≤ 9000000) (v : StepV) (hv : v.pieces = []) :
    Triple P (C G) 114 [.ref rb 0] S fun o S' => ∃ ps b ws', o = .ret (.ag [.sl .any 2 (rowsP ps), .str b]) ∧ S' = S.upd rb (rdO ws' (rowG ws0 v).1) ∧ ws' <:+ ws0 ∧
      ((rowG ws0 v).1 = 0 → ws' = (rowG ws0 v).2.1 ∧ (rowG ws0 v).2.2 = { v with pieces := ps, bound := b }) := by
  obtain ⟨PW, hPW⟩ : ∃ W, pieceG ws0 [] = W := ⟨_, rfl⟩
  have hrow : rowG ws0 v = if PW.2.1 = 0 then boundG PW.2.2.tail { v with pieces := PW.1 } else (PW.2.1, PW.2.2, { v with pieces := PW.1 }) := by unfold rowG; rw [hv, hPW]
  generalize rowG ws0 v = R at hrow ⊢
  refine triple_of_awp (hT G) hm Tryz.func114 rfl (by decide +kernel) rfl (by decide +kernel) (by show 1 ≤ _; decide +kernel) rfl ?_
  refine awp_seq2 fun K hK hQ => ?_
  conv => whnf
  intro b2 hb2
  conv => whnf
  refine hK _ _ ?_
  clear hK hQ K
  refine awp_seq2 fun K hK hQ => ?_
  conv => whnf
  intro b3 hb3
  conv => whnf
  refine hK _ _ ?_
  clear hK hQ K
  have q0 : ((S.upd b2 (.obj 51 [.nils, .str ByteArray.empty])).upd b3 (.obj 51 [.nils, .str ByteArray.empty])) rb = some (rdO ws0 0) := St.up hb3 (St.up hb2 h)
  have q3 := St.upd_same (S.upd b2 (.obj 51 [.nils, .str ByteArray.empty])) b3 (.obj 51 [.nils, .str ByteArray.empty])
  have q2 : ((S.upd b2 (.obj 51 [.nils, .str ByteArray.empty])).upd b3 (.obj 51 [.nils, .str ByteArray.empty])) b2 = some (.obj 51 [.nils, .str ByteArray.empty]) := St.up hb3 (St.upd_same _ _ _)
  have hle := St.le_upd' (St.le_upd' (St.le_refl S) hb2 (.obj 51 [.nils, .str ByteArray.empty])) hb3 (.obj 51 [.nils, .str ByteArray.empty])
  have n2 : b2 ≠ rb := fun e => by rw [e, h] at hb2; cases hb2
  have n3 : b3 ≠ rb := fun e => by rw [e, St.up hb2 h] at hb3; cases hb3
  have n32 : b3 ≠ b2 := fun e => by rw [e, St.upd_same] at hb3; cases hb3
  change awp _ _ _ _ ((S.upd b2 (.obj 51 [.nils, .str ByteArray.empty])).upd b3 (.obj 51 [.nils, .str ByteArray.empty])) _
  generalize (S.upd b2 (.obj 51 [.nils, .str ByteArray.empty])).upd b3 (.obj 51 [.nils, .str ByteArray.empty]) = T at *
  refine awp_seq2 fun K hK hQ => ?_
  conv => whnf
  refine ⟨⟨List ByteArray × Int × List (ByteArray × Int) × Nat, fun x => [(0, .ref rb 0), (2, .ref b2 0), (3, .ref b3 0)],
    fun x S1 => AccOk ((T.upd rb (rdO x.1 x.2.1)).upd b3 (rowA (.acc x.2.2.2) x.2.2.1 ByteArray.empty)) S1 136 2 x.2.2.2 x.2.2.1.length ∧ x.2.2.1.length + x.1.length ≤ 9000001 ∧ x.1 <:+ ws0 ∧
      (x.2.1 = 0 → pieceG x.1 x.2.2.1 = PW ∧ x.2.2.1.length + x.1.length ≤ 9000000) ∧ (x.2.1 ≠ 0 → PW.2.1 = x.2.1), fun x => x.1.length + (if x.2.1 = 0 then 1 else 0)⟩,
    ⟨(ws0, 0, [], 0), ⟨rfl, rfl, rfl, trivial⟩, T.upd b3 (rowA (.acc 0) [] ByteArray.empty), St.leW_upd q3 ⟨rfl, rfl, trivial⟩, by rw [St.upd_id q0]; exact AccOk.init _ _ _ _, by dsimp only; simp; omega, List.suffix_refl _, fun _ => ⟨hPW, by simpa using hn0⟩, fun h => absurd rfl h⟩, ?_⟩
  rintro ⟨ws, e, acc, ba⟩ S1 ⟨g1, g2, g3, g4, g5⟩
  dsimp only at g1 g2 g3 g4 g5
  have q1 : S1 rb = some (rdO ws e) := g1.le _ _ (by rw [St.upd_ne _ _ _ _ n3.symm]; exact St.upd_same _ _ _)
  have p3 : S1 b3 = some (rowA (.acc ba) acc ByteArray.empty) := g1.le _ _ (St.upd_same _ _ _)
  have hsw : ∀ w ∈ ws, w.size ≤ 9000000 := fun w hw => hw0 w (g3.mem hw)
  have hfin : ∀ (X : Own) (F : St), F rb = some X → (∀ x, x ≠ rb → x ≠ b2 → x ≠ b3 → F x = S1 x) → St.le (S.upd rb X) F := fun X F f1 f2 x p hx => by
    by_cases h1 : x = rb
    · subst h1; rw [St.upd_same] at hx; rw [f1]; exact hx
    rw [St.upd_ne _ _ _ _ h1] at hx
    have h2 : x ≠ b2 := fun e => by rw [e, hb2] at hx; cases hx
    have h3 : x ≠ b3 := fun e => by rw [e, St.no hb3] at hx; cases hx
    rw [f2 x h1 h2 h3]
    exact g1.le _ _ (by rw [St.upd_ne _ _ _ _ h3, St.upd_ne _ _ _ _ h1]; exact hle _ _ hx)
  have p2 : S1 b2 = some (.obj 51 [.nils, .str ByteArray.empty]) := g1.le _ _ (by rw [St.upd_ne _ _ _ _ n32.symm, St.upd_ne _ _ _ _ n2]; exact q2)
  obtain ⟨o1, ho1⟩ : ∃ o, oneR geS ws e = o := ⟨_, rfl⟩
  obtain ⟨nn, hn2⟩ : ∃ o, numR (-1) o1.1 o1.2 = o := ⟨_, rfl⟩
  obtain ⟨o3, ho3⟩ : ∃ o, oneR semiS nn.2.2 nn.2.1 = o := ⟨_, rfl⟩
  have sf1 : o1.1 <:+ ws := by rw [← ho1]; exact oneR_suffix _ _ _
  have sf2 : nn.2.2 <:+ ws := by rw [← hn2]; exact (numR_suffix _ _ _).trans sf1
  have sf3 : o3.1 <:+ ws := by rw [← ho3]; exact (oneR_suffix _ _ _).trans sf2
  by_cases he : e = 0
  · subst he
    obtain ⟨hP, hlen⟩ := g4 rfl
    have his := is_ok (G := G) q1 geS
    by_cases hge : ws.head? = some geS
    · rw [show isR ws 0 geS = true from by simp [isR, hge]] at his
      conv => whnf
      refine ⟨_, _, q1, ?_⟩
      conv => whnf
      refine his.mono ?_
      rintro o T2 ⟨rfl, rfl⟩
      conv => whnf
      obtain ⟨t1, t2⟩ := row_tail (acc := acc) (ws := ws) hrow (.inl ⟨rfl, hge, hP⟩) ho1 hn2 ho3
      refine hK _ _ ?_
      clear hK hQ K
      refine awp_seq2 fun K hK hQ => ?_
      conv => whnf
      refine (one_ok (G := G) q1 geS).mono ?_
      rw [ho1]
      rintro o T2 ⟨rfl, rfl⟩
      conv => whnf
      refine hK _ _ ?_
      clear hK hQ K
      refine awp_seq2 fun K hK hQ => ?_
      conv => whnf
      refine (number1_ok (G := G) (St.upd_same _ _ _) (fun w hw => hsw w (sf1.mem hw)) (-1) (by omega) (by omega)).mono ?_
      rw [hn2]
      rintro o T2 ⟨rfl, rfl⟩
      conv => whnf
      refine ⟨_, _, St.ov n3 (St.ov n3 p3), ?_⟩
      conv => whnf
      refine hK _ _ ?_
      clear hK hQ K
      refine awp_seq2 fun K hK hQ => ?_
      conv => whnf
      refine (one_ok (G := G) (S := _) (rb := rb) (ws := nn.2.2) (e := nn.2.1) (St.ov n3.symm (St.upd_same _ _ _)) semiS).mono ?_
      rw [ho3]
      rintro o T2 ⟨rfl, rfl⟩
      conv => whnf
      refine hK _ _ ?_
      clear hK hQ K
      conv => whnf
      refine ⟨_, _, St.ov n3 (St.upd_same _ _ _), ?_⟩
      conv => whnf
      refine ⟨_, _, St.ov n2 (St.ov n32.symm (St.ov n2 (St.ov n2 p2))), ?_⟩
      conv => whnf
      refine ⟨_, _, St.upd_same _ _ _, ?_⟩
      conv => whnf
      refine ⟨_, _, ⟨acc, nn.1, o3.1, rfl, rfl, sf3.trans g3, t2⟩, ?_, ⟨⟨rfl, rfl⟩, rfl, rfl⟩⟩
      rw [← t1]
      exact hfin _ _ (St.ov n2.symm (St.upd_same _ _ _)) (fun x x1 x2 x3 => by rw [St.upd_ne _ _ _ _ x2, St.upd_ne _ _ _ _ x1, St.upd_ne _ _ _ _ x3, St.upd_ne _ _ _ _ x1, St.upd_ne _ _ _ _ x1])
    · rw [show isR ws 0 geS = false from by simp [isR, hge]] at his
      clear ho1 hn2 ho3 sf1 sf2 sf3
      obtain ⟨nu, hnu⟩ : ∃ o, numR (-1) ws 0 = o := ⟨_, rfl⟩
      obtain ⟨li, hli⟩ : ∃ o, litR nu.2.2 nu.2.1 = o := ⟨_, rfl⟩
      obtain ⟨k1, k2⟩ := pieceG_step hge acc hnu hli
      have u1 : nu.2.2 <:+ ws := by rw [← hnu]; exact numR_suffix _ _ _
      have u2 : li.2.2 <:+ ws := by rw [← hli]; exact (litR_suffix _ _).trans u1
      have m1 := (number1_ok (G := G) q1 hsw (-1) (by omega) (by omega))
      rw [hnu] at m1
      have m2 := (lit1_ok (G := G) (S := S1.upd rb (rdO nu.2.2 nu.2.1)) (St.upd_same _ _ _) (fun w hw => hsw w (u1.mem hw)))
      rw [hli] at m2
      conv => whnf
      refine ⟨_, _, q1, ?_⟩
      conv => whnf
      refine his.mono ?_
      rintro o T2 ⟨rfl, rfl⟩
      conv => whnf
      refine m1.mono ?_
      rintro o T3 ⟨rfl, rfl⟩
      refine ⟨[], (.free 0 (.free 2 (.free 3 (.one 1 (.one 4 (.free 5 (.one 6 (.one 7 (.free 8 (.one 9 .done .none)) .none) .none)) .none) (.one 4 (.free 1 (.free 5 (.one 6 (.one 7 (.free 8 (.one 9 .done .none)) .none) .none))) .none))))), _, by decide +kernel, ?_, fun _ _ h => ⟨_, .inl rfl, h⟩⟩
      conv => whnf
      refine ⟨?_, ?_⟩
      · refine ⟨_, _, St.ov n3 p3, ?_⟩
        conv => whnf
        refine m2.mono ?_
        rintro o T4 ⟨rfl, rfl⟩
        conv => whnf
        rw [St.upd_upd]
        have g1' := g1.over (x := rb) (St.ov n3.symm (St.upd_same _ _ _)) (rdO li.2.2 li.2.1)
        rw [St.upd_comm n3, St.upd_upd] at g1'
        intro bb hbb
        have hTb := g1'.other hbb (.tip 136 2 1)
        conv => whnf
        refine ⟨⟨fun hl => ?_, ?_⟩, fun S4 c1 c2 b' c3 => ?_⟩
        · have : 0 < acc.length := by cases acc with
            | nil => exact absurd rfl hl
            | cons _ _ => simp
          rw [rowsP_len]; exact hTb.tip this
        · show ((rowsP acc).length + 1) * 24 ≤ _
          rw [rowsP_len]; omega
        have h5 := hTb.push (m := acc.length + 1) (by rw [rowsP_len]) c1 c2 c3 rfl
        rw [rowsP_len]
        conv => whnf
        rw [rowsP_snoc acc (nu.1, li.1)]
        refine ⟨_, _, h5.le _ _ (St.upd_same _ _ _), ?_⟩
        conv => whnf
        have h6 := h5.over (x := b3) (St.upd_same _ _ _) (rowA (.acc b') (acc ++ [(nu.1, li.1)]) ByteArray.empty)
        rw [St.upd_upd] at h6
        have hl2 := u2.length_le
        exact ⟨(li.2.2, li.2.1, acc ++ [(nu.1, li.1)], b'), ⟨rfl, rfl, rfl, trivial⟩, ⟨_, St.leW_refl _, by dsimp only; rw [List.length_append]; exact h6, by simp <;> omega, u2.trans g3, fun h => by
            obtain ⟨a1, a2⟩ := k1 h
            exact ⟨by rw [← hP]; exact a1.symm, by simp <;> omega⟩, fun h => by rw [← hP]; exact k2 h⟩, by
          show li.2.2.length + (if li.2.1 = 0 then 1 else 0) < ws.length + (if (0 : Int) = 0 then 1 else 0)
          rw [if_pos (rfl : (0 : Int) = 0)]
          by_cases h : li.2.1 = 0
          · have := (k1 h).2; rw [if_pos h]; omega
          · rw [if_neg h]; omega⟩
      · refine m2.mono ?_
        rintro o T4 ⟨rfl, rfl⟩
        conv => whnf
        refine ⟨_, _, St.ov n3 (St.ov n3 p3), ?_⟩
        conv => whnf
        rw [St.upd_upd]
        have g1' := g1.over (x := rb) (St.ov n3.symm (St.upd_same _ _ _)) (rdO li.2.2 li.2.1)
        rw [St.upd_comm n3, St.upd_upd] at g1'
        intro bb hbb
        have hTb := g1'.other hbb (.tip 136 2 1)
        conv => whnf
        refine ⟨⟨fun hl => ?_, ?_⟩, fun S4 c1 c2 b' c3 => ?_⟩
        · have : 0 < acc.length := by cases acc with
            | nil => exact absurd rfl hl
            | cons _ _ => simp
          rw [rowsP_len]; exact hTb.tip this
        · show ((rowsP acc).length + 1) * 24 ≤ _
          rw [rowsP_len]; omega
        have h5 := hTb.push (m := acc.length + 1) (by rw [rowsP_len]) c1 c2 c3 rfl
        rw [rowsP_len]
        conv => whnf
        rw [rowsP_snoc acc (nu.1, li.1)]
        refine ⟨_, _, h5.le _ _ (St.upd_same _ _ _), ?_⟩
        conv => whnf
        have h6 := h5.over (x := b3) (St.upd_same _ _ _) (rowA (.acc b') (acc ++ [(nu.1, li.1)]) ByteArray.empty)
        rw [St.upd_upd] at h6
        have hl2 := u2.length_le
        exact ⟨(li.2.2, li.2.1, acc ++ [(nu.1, li.1)], b'), ⟨rfl, rfl, rfl, trivial⟩, ⟨_, St.leW_refl _, by dsimp only; rw [List.length_append]; exact h6, by simp <;> omega, u2.trans g3, fun h => by
            obtain ⟨a1, a2⟩ := k1 h
            exact ⟨by rw [← hP]; exact a1.symm, by simp <;> omega⟩, fun h => by rw [← hP]; exact k2 h⟩, by
          show li.2.2.length + (if li.2.1 = 0 then 1 else 0) < ws.length + (if (0 : Int) = 0 then 1 else 0)
          rw [if_pos (rfl : (0 : Int) = 0)]
          by_cases h : li.2.1 = 0
          · have := (k1 h).2; rw [if_pos h]; omega
          · rw [if_neg h]; omega⟩
  · have hne : (e == 0) = false := beq_false_of_ne he
    conv => whnf
    refine ⟨_, _, q1, ?_⟩
    conv => whnf
    rw [hne]
    conv => whnf
    obtain ⟨t1, t2⟩ := row_tail (acc := acc) (ws := ws) hrow (.inr ⟨he, g5 he⟩) ho1 hn2 ho3
    refine hK _ _ ?_
    clear hK hQ K
    refine awp_seq2 fun K hK hQ => ?_
    conv => whnf
    refine (one_ok (G := G) q1 geS).mono ?_
    rw [ho1]
    rintro o T2 ⟨rfl, rfl⟩
    conv => whnf
    refine hK _ _ ?_
    clear hK hQ K
    refine awp_seq2 fun K hK hQ => ?_
    conv => whnf
    refine (number1_ok (G := G) (St.upd_same _ _ _) (fun w hw => hsw w (sf1.mem hw)) (-1) (by omega) (by omega)).mono ?_
    rw [hn2]
    rintro o T2 ⟨rfl, rfl⟩
    conv => whnf
    refine ⟨_, _, St.ov n3 (St.ov n3 p3), ?_⟩
    conv => whnf
    refine hK _ _ ?_
    clear hK hQ K
    refine awp_seq2 fun K hK hQ => ?_
    conv => whnf
    refine (one_ok (G := G) (S := _) (rb := rb) (ws := nn.2.2) (e := nn.2.1) (St.ov n3.symm (St.upd_same _ _ _)) semiS).mono ?_
    rw [ho3]
    rintro o T2 ⟨rfl, rfl⟩
    conv => whnf
    refine hK _ _ ?_
    clear hK hQ K
    conv => whnf
    refine ⟨_, _, St.ov n3 (St.upd_same _ _ _), ?_⟩
    conv => whnf
    refine ⟨_, _, St.ov n2 (St.ov n32.symm (St.ov n2 (St.ov n2 p2))), ?_⟩
    conv => whnf
    refine ⟨_, _, St.upd_same _ _ _, ?_⟩
    conv => whnf
    refine ⟨_, _, ⟨acc, nn.1, o3.1, rfl, rfl, sf3.trans g3, t2⟩, ?_, ⟨⟨rfl, rfl⟩, rfl, rfl⟩⟩
    rw [← t1]
    exact hfin _ _ (St.ov n2.symm (St.upd_same _ _ _)) (fun x x1 x2 x3 => by rw [St.upd_ne _ _ _ _ x2, St.upd_ne _ _ _ _ x1, St.upd_ne _ _ _ _ x3, St.upd_ne _ _ _ _ x1, St.upd_ne _ _ _ _ x1])
end Go.Proofs.YtcpdgnkhkdddhaaGreatDoor.Aw

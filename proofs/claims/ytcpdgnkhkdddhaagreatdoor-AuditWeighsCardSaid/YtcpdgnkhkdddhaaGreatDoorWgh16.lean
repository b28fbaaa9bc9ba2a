/-
  The weight of a log, plain: what a step adds; the kinds of steps.
  The lines of a text: how long, how many.
  hallmarkref21.Weigh, walked.
  audit's scale: a step weighed, walked.
  audit.Weigh, walked.
  hallmarklaw21.AuditWeighs, walked: it answers true.
-/
import Derived.Test.YtcpdgnkhkdddhaaGreatDoorWgh15
import Derived.Test.YtcpdgnkhkdddhaaGreatDoorWgh8
set_option maxRecDepth 100000
set_option linter.unusedVariables false
set_option linter.unusedSimpArgs false
namespace Go.Proofs.YtcpdgnkhkdddhaaGreatDoor.Aw
open Go Go.RowKit

structure WgV where
  lines : Int
  bytes : Int
  rows : Int
  gone : Int
  peak : Int
  longest : Int
  kinds : List Int
def rowsOfI (l : List Int) : List AV := l.map (AV.int .i64)
@[simp] theorem rowsOfI_len (l : List Int) : (rowsOfI l).length = l.length := by simp [rowsOfI]
def wgC (v : WgV) : List AV := .int .i64 v.lines :: .int .i64 v.bytes :: .int .i64 v.rows :: .int .i64 v.gone :: .int .i64 v.peak :: .int .i64 v.longest :: rowsOfI v.kinds
def zero13 : List Int := [0, 0, 0, 0, 0, 0, 0, 0, 0, 0, 0, 0, 0]
def wgZero (b : Int) : WgV := ⟨0, b, 0, 0, 0, 0, zero13⟩
abbrev Wr (z : Int) : Int := IntKind.i64.wrap z
def mxI (a b : Int) : Int := if b > a then b else a
def isRowK (k : Int) : Bool := k == 3 || k == 4 || k == 11
def upK (l : List Int) (n : Nat) : List Int := l.set n (Wr (l.getD n 0 + 1))
/-- One step more. -/
def wgStep (v : WgV) (k n len : Int) : WgV :=
  let rows := if isRowK k then Wr (v.rows + 1) else v.rows
  let gone := if k = 6 then Wr (v.gone + n) else v.gone
  ⟨Wr (v.lines + 1), v.bytes, rows, gone, mxI v.peak (Wr (rows - gone)), mxI v.longest len, upK v.kinds k.toNat⟩
@[simp] theorem upK_len (l : List Int) (n : Nat) : (upK l n).length = l.length := by simp [upK]
theorem rows_there {a b : Int} : Wr (Wr (a - b) + 1) = Wr (Wr (a + 1) - b) := by
  unfold Wr; simp only [IntKind.wrap_i64]; omega
theorem gone_there {a b n : Int} : Wr (Wr (a - b) - n) = Wr (a - Wr (b + n)) := by
  unfold Wr; simp only [IntKind.wrap_i64]; omega
/-- The weight of lines; the line that is refused, and its error. -/
def wgGo : List ByteArray → Nat → WgV → WgV × Int × Int
  | [], _, v => (v, 0, 0)
  | x :: l, i, v => if (parseP x).2 = 0 then wgGo l (i + 1) (wgStep v (parseP x).1.kind (parseP x).1.ids.length x.size) else (wgZero 0, Wr ((i : Int) + 1), (parseP x).2)
theorem rowG_kind (ws : List ByteArray) (v : StepV) : (rowG ws v).2.2.kind = v.kind := by
  unfold rowG boundG
  split
  · split <;> rfl
  · rfl
theorem idG_kind (ws : List ByteArray) (v : StepV) : (idG ws v).2.2.kind = v.kind := by
  unfold idG
  split
  · split <;> rfl
  · rfl
def OkKind (k : Int) : Prop := 0 ≤ k ∧ k < 13
theorem tabG_kind {w : ByteArray} {f : List ByteArray → StepV → RetG} (h : tabG w = some f) (l : List ByteArray) (v : StepV) : OkKind (f l v).2.2.kind := by
  have h9 : ∀ (l : List ByteArray) (v : StepV), (conclG l v).2.2.kind = 9 := fun l v => by
    unfold conclG
    cases l with
    | nil => rfl
    | cons w l =>
      dsimp only
      split
      · rfl
      split
      · rfl
      split
      · rw [idG_kind]
      split
      · unfold allG
        split
        · split
          · rfl
          · rw [idG_kind]
        · rfl
      split
      · unfold boundsG
        split
        · unfold upG
          split
          · show (idG _ _).2.2.kind = 9
            rw [idG_kind]
          · rw [idG_kind]
        · rfl
      · rfl
  have h4 : ∀ (l : List ByteArray) (v : StepV), (rupG l v).2.2.kind = 4 := fun l v => by
    unfold rupG
    split
    · show (rowG l _).2.2.kind = 4
      rw [rowG_kind]
    · rw [rowG_kind]
  have h12 : ∀ (l : List ByteArray) (v : StepV), (sameG l v).2.2.kind = 12 := fun l v => by
    unfold sameG
    split
    · rw [rowG_kind]
    · rfl
  have h6 : ∀ (l : List ByteArray) (v : StepV), (delG l v).2.2.kind = 6 := fun l v => by
    unfold delG
    split
    · split <;> rfl
    · rfl
  unfold tabG at h
  by_cases ckHead : w = kHead
  · rw [if_pos ckHead] at h
    injection h with h
    subst h
    exact (show OkKind 1 from ⟨by decide, by decide⟩)
  rw [if_neg ckHead] at h
  by_cases ckF : w = kF
  · rw [if_pos ckF] at h
    injection h with h
    subst h
    exact (show OkKind 2 from ⟨by decide, by decide⟩)
  rw [if_neg ckF] at h
  by_cases ckPol : w = kPol
  · rw [if_pos ckPol] at h
    injection h with h
    subst h
    exact (show OkKind 3 from ⟨by decide, by decide⟩)
  rw [if_neg ckPol] at h
  by_cases ckRup : w = kRup
  · rw [if_pos ckRup] at h
    injection h with h
    subst h
    rw [h4]
    exact ⟨by decide, by decide⟩
  rw [if_neg ckRup] at h
  by_cases ckSoli : w = kSoli
  · rw [if_pos ckSoli] at h
    injection h with h
    subst h
    exact (show OkKind 5 from ⟨by decide, by decide⟩)
  rw [if_neg ckSoli] at h
  by_cases ckSolx : w = kSolx
  · rw [if_pos ckSolx] at h
    injection h with h
    subst h
    exact (show OkKind 11 from ⟨by decide, by decide⟩)
  rw [if_neg ckSolx] at h
  by_cases ckE : w = kE
  · rw [if_pos ckE] at h
    injection h with h
    subst h
    rw [h12]
    exact ⟨by decide, by decide⟩
  rw [if_neg ckE] at h
  by_cases ckDel : w = kDel
  · rw [if_pos ckDel] at h
    injection h with h
    subst h
    rw [h6]
    exact ⟨by decide, by decide⟩
  rw [if_neg ckDel] at h
  by_cases ckStar : w = kStar
  · rw [if_pos ckStar] at h
    injection h with h
    subst h
    exact (show OkKind 7 from ⟨by decide, by decide⟩)
  rw [if_neg ckStar] at h
  by_cases ckOut : w = kOut
  · rw [if_pos ckOut] at h
    injection h with h
    subst h
    exact (show OkKind 8 from ⟨by decide, by decide⟩)
  rw [if_neg ckOut] at h
  by_cases ckConc : w = kConc
  · rw [if_pos ckConc] at h
    injection h with h
    subst h
    rw [h9]
    exact ⟨by decide, by decide⟩
  rw [if_neg ckConc] at h
  by_cases ckEnd : w = kEnd
  · rw [if_pos ckEnd] at h
    injection h with h
    subst h
    exact (show OkKind 10 from ⟨by decide, by decide⟩)
  rw [if_neg ckEnd] at h
  cases h
theorem parseP_kind (s : ByteArray) : OkKind (parseP s).1.kind := by
  unfold parseP
  split
  · generalize wordsL s = ws
    unfold parseW
    cases ws with
    | nil => exact (show OkKind 7 from ⟨by decide, by decide⟩)
    | cons w l =>
      dsimp only
      cases h : tabG w with
      | none => exact (show OkKind 0 from ⟨by decide, by decide⟩)
      | some f => exact tabG_kind h l zeroV
  · exact (show OkKind 0 from ⟨by decide, by decide⟩)
theorem wgGo_err : ∀ (l : List ByteArray) (i : Nat) (v : WgV), (wgGo l i v).2.2 ≠ 0 → (wgGo l i v).1 = wgZero 0
  | [], i, v, h => absurd rfl h
  | x :: l, i, v, h => by
    unfold wgGo at h ⊢
    split
    · rename_i h1
      rw [if_pos h1] at h
      exact wgGo_err l _ _ h
    · rfl
end Go.Proofs.YtcpdgnkhkdddhaaGreatDoor.Aw

set_option maxRecDepth 100000
set_option linter.unusedVariables false
set_option linter.unusedSimpArgs false
namespace Go.Proofs.YtcpdgnkhkdddhaaGreatDoor.Aw
open Go Go.RowKit

theorem splitB_size (sep : ByteArray) (sv : Nat) : ∀ (k : Nat) (s : ByteArray), ∀ x ∈ Lib.splitB sep sv k s, x.size ≤ s.size
  | 0, s => by intro x hx; rw [Lib.splitB_zero] at hx; simp at hx; rw [hx]; exact Nat.le_refl _
  | k + 1, s => by
    intro x hx
    unfold Lib.splitB at hx
    split at hx
    · simp at hx; rw [hx]; exact Nat.le_refl _
    · rcases List.mem_cons.1 hx with rfl | hx
      · rw [ByteArray.size_extract]; omega
      · have := splitB_size sep sv k _ x hx
        rw [ByteArray.size_extract] at this; omega
theorem linesOf_size (s : ByteArray) : ∀ x ∈ linesOf s, x.size ≤ s.size := by
  intro x hx
  unfold linesOf at hx
  dsimp only at hx
  have hm : x ∈ splitS s sepNL := by
    split at hx
    · exact List.mem_of_mem_take hx
    · exact hx
  exact splitB_size _ _ _ _ x hm
theorem linesOf_len (s : ByteArray) : (linesOf s).length ≤ s.size + 1 := by
  have := splitS_le s sepNL (by decide)
  unfold linesOf
  dsimp only
  split
  · rw [List.length_take]; omega
  · omega
end Go.Proofs.YtcpdgnkhkdddhaaGreatDoor.Aw

set_option maxRecDepth 100000
set_option linter.unusedVariables false
set_option linter.unusedSimpArgs false
namespace Go.Proofs.YtcpdgnkhkdddhaaGreatDoor.Aw
open Go Go.RowKit
variable {G : Nat → Option (List AV)}

theorem setRange_app : ∀ (xs pre post : List AV), setRange (pre ++ post) pre.length xs = pre ++ (xs ++ post.drop xs.length) ∨ post.length < xs.length
  | [], pre, post => .inl (by simp [setRange])
  | x :: xs, pre, [] => .inr (by simp)
  | x :: xs, pre, y :: post => by
    have h := setRange_app xs (pre ++ [x]) post
    simp only [List.length_append, List.length_cons, List.length_nil, List.append_assoc, List.singleton_append] at h
    rcases h with h | h
    · left
      rw [setRange]
      have : (pre ++ y :: post).set pre.length x = pre ++ x :: post := by simp
      rw [this]
      simpa using h
    · right; simp; omega
theorem setRange_all {cells xs : List AV} (h : xs.length = cells.length) : setRange cells 0 xs = xs := by
  rcases setRange_app xs [] cells with h1 | h1
  · simp only [List.nil_append, List.length_nil] at h1
    rw [h1, h, List.drop_length, List.append_nil]
  · omega
/-- A whole object is written over. -/
theorem store_all {cells xs : List AV} {n : Nat} {K : List AV → Prop} (hl : xs.length = cells.length) (hn : n = cells.length) (h : K xs) : when (Nat.ble (0 + n) cells.length) (forceL (setRange cells 0 xs) K) := by
  rw [when_iff]
  exact ⟨Nat.ble_eq_true_of_le (by omega), by rw [forceL_eq, setRange_all hl]; exact h⟩
def stepM (v : StepV) : List AV := [.int .i64 v.kind, .str v.num, .sl .any 3 (rowsO v.ops), .sl .any 2 (rowsP v.pieces), .str v.bound, .sl .any 1 (rowsI v.lits), .sl .any 1 (rowsS v.ids), .int .i64 v.n6, .str v.s7, .str v.s8]
theorem wgC_len (v : WgV) : (wgC v).length = 6 + v.kinds.length := by simp [wgC]; omega
theorem len13 {α : Type} {l : List α} (h : l.length = 13) : ∃ a0 a1 a2 a3 a4 a5 a6 a7 a8 a9 a10 a11 a12, l = [a0, a1, a2, a3, a4, a5, a6, a7, a8, a9, a10, a11, a12] := by
  match l, h with
  | [a0, a1, a2, a3, a4, a5, a6, a7, a8, a9, a10, a11, a12], _ => exact ⟨a0, a1, a2, a3, a4, a5, a6, a7, a8, a9, a10, a11, a12, rfl⟩
theorem wg_drop {va vb vc vd ve vf : Int} {ks : List Int} {n o : Nat} (ho : o = 6 + n) (h : n < ks.length) : List.drop o (wgC ⟨va, vb, vc, vd, ve, vf, ks⟩) = .int .i64 (ks.getD n 0) :: rowsOfI (ks.drop (n + 1)) := by
  rw [ho, Nat.add_comm]
  show List.drop n (rowsOfI ks) = _
  unfold rowsOfI
  rw [← List.map_drop, List.drop_eq_getElem_cons h, List.map_cons]
  simp [h]
theorem wg_set {va vb vc vd ve vf z : Int} {ks : List Int} {n o : Nat} (ho : o = 6 + n) : setRange (wgC ⟨va, vb, vc, vd, ve, vf, ks⟩) o [.int .i64 z] = wgC ⟨va, vb, vc, vd, ve, vf, ks.set n z⟩ := by
  rw [ho, Nat.add_comm]
  show (AV.int .i64 va :: .int .i64 vb :: .int .i64 vc :: .int .i64 vd :: .int .i64 ve :: .int .i64 vf :: (rowsOfI ks).set n (.int .i64 z)) = _
  unfold wgC rowsOfI
  rw [List.map_set]
structure WgS (S F : St) (b2 b3 b4 : Nat) (cs : List AV) : Prop where
  w2 : F b2 = some (.obj 63 (wgC (wgZero 0)))
  w3 : F b3 = some (.obj 65 [.int .i64 0, .int .i64 0])
  w4 : F b4 = some (.obj 63 cs)
  ls : St.le S F
  n23 : b2 ≠ b3
  n24 : b2 ≠ b4
  n34 : b3 ≠ b4
  z2 : S b2 = none
  z3 : S b3 = none
  z4 : S b4 = none
theorem WgS.le {S F F' : St} {b2 b3 b4 : Nat} {cs : List AV} (h : WgS S F b2 b3 b4 cs) (hl : St.le F F') : WgS S F' b2 b3 b4 cs :=
  ⟨hl _ _ h.w2, hl _ _ h.w3, hl _ _ h.w4, fun x p e => hl _ _ (h.ls x p e), h.n23, h.n24, h.n34, h.z2, h.z3, h.z4⟩
theorem WgS.more {S F : St} {b2 b3 b4 : Nat} {cs : List AV} (h : WgS S F b2 b3 b4 cs) {b : Nat} (hb : F b = none) (o : Own) : WgS S (F.upd b o) b2 b3 b4 cs := h.le (St.le_upd' (St.le_refl _) hb o)
theorem WgS.put {S F : St} {b2 b3 b4 : Nat} {cs : List AV} (h : WgS S F b2 b3 b4 cs) (cs' : List AV) : WgS S (F.upd b4 (.obj 63 cs')) b2 b3 b4 cs' :=
  ⟨St.ov h.n24 h.w2, St.ov h.n34 h.w3, St.upd_same _ _ _, fun x p e => St.ov (fun e' => by rw [e', h.z4] at e; cases e) (h.ls x p e), h.n23, h.n24, h.n34, h.z2, h.z3, h.z4⟩
theorem WgS.fin {S F : St} {b2 b3 b4 : Nat} {cs : List AV} (h : WgS S F b2 b3 b4 cs) (X Y : Own) : St.le S ((F.upd b2 X).upd b3 Y) := fun x p e =>
  St.ov (fun e' => by rw [e', h.z3] at e; cases e) (St.ov (fun e' => by rw [e', h.z2] at e; cases e) (h.ls x p e))
theorem Weigh_ref_ok (s : ByteArray) (hs : s.size ≤ 100000) (S : St) :
    Triple P (C G) 16 [.str s] S fun o S' => o = .ret (.tu [.ag (wgC (wgGo (linesOf s) 0 (wgZero s.size)).1), .ag [.int .i64 (wgGo (linesOf s) 0 (wgZero s.size)).2.1, .int .i64 (wgGo (linesOf s) 0 (wgZero s.size)).2.2]]) ∧ S' = S := by
  have hl := refLines_ok (G := G) s (by omega)
  rw [← lines_law] at hl
  have hsz := linesOf_size s
  have hll := linesOf_len s
  generalize linesOf s = ls at *
  have hsz2 : ∀ x ∈ ls, x.size ≤ 8999999 := fun x hx => Nat.le_trans (hsz x hx) (by omega)
  obtain ⟨W, hW⟩ : ∃ W, wgGo ls 0 (wgZero s.size) = W := ⟨_, rfl⟩
  rw [hW]
  refine triple_of_awp (hT G) hm Tryz.func16 rfl (by decide +kernel) rfl (by decide +kernel) (by show 1 ≤ _; decide +kernel) rfl ?_
  refine awp_seq2 fun K hK hQ => ?_
  conv => whnf
  intro b2 hb2
  conv => whnf
  intro b3 hb3
  conv => whnf
  refine hK _ _ ?_
  clear hK hQ K
  refine awp_seq2 fun K hK hQ => ?_
  conv => whnf
  intro b4 hb4
  conv => whnf
  refine ⟨_, _, St.upd_same _ _ _, ?_⟩
  rw [when_iff]
  refine ⟨rfl, ?_⟩
  rw [forceL_eq, setRange_all (by rfl)]
  conv => whnf
  rw [St.upd_upd]
  refine hK _ _ ?_
  clear hK hQ K
  have hE : WgS S (((S.upd b2 (.obj 63 (wgC (wgZero 0)))).upd b3 (.obj 65 [.int .i64 0, .int .i64 0])).upd b4 (.obj 63 (wgC (wgZero s.size)))) b2 b3 b4 (wgC (wgZero s.size)) :=
    ⟨St.up hb4 (St.up hb3 (St.upd_same _ _ _)), St.up hb4 (St.upd_same _ _ _), St.upd_same _ _ _, St.le_upd' (St.le_upd' (St.le_upd' (St.le_refl S) hb2 _) hb3 _) hb4 _, (fun e => by rw [← e, St.upd_same] at hb3; cases hb3), (fun e => by rw [← e, St.up hb3 (St.upd_same _ _ _)] at hb4; cases hb4), (fun e => by rw [← e, St.upd_same] at hb4; cases hb4), hb2, St.no hb3, St.no (St.no hb4)⟩
  change awp _ _ _ _ (((S.upd b2 (.obj 63 (wgC (wgZero 0)))).upd b3 (.obj 65 [.int .i64 0, .int .i64 0])).upd b4 (.obj 63 (wgC (wgZero s.size)))) _
  generalize ((S.upd b2 (.obj 63 (wgC (wgZero 0)))).upd b3 (.obj 65 [.int .i64 0, .int .i64 0])).upd b4 (.obj 63 (wgC (wgZero s.size))) = F at *
  clear hb2 hb3 hb4
  refine awp_seq2 fun K hK hQ => ?_
  conv => whnf
  refine (hl _).mono ?_
  rintro o T ⟨rfl, rfl⟩
  conv => whnf
  refine hK _ _ ?_
  clear hK hQ K
  refine awp_seq2 fun K hK hQ => ?_
  conv => whnf
  refine ⟨⟨Nat × WgV, fun x => [(2, .ref b2 0), (3, .ref b3 0), (4, .ref b4 0), (5, .sl .any 1 (rowsS ls)), (6, .int .i64 (x.1 : Int))],
    fun x S1 => WgS S S1 b2 b3 b4 (wgC x.2) ∧ x.1 ≤ ls.length ∧ x.2.kinds.length = 13 ∧ wgGo (ls.drop x.1) x.1 x.2 = W, fun x => ls.length - x.1⟩,
    ⟨(0, wgZero s.size), ⟨rfl, rfl, rfl, ⟨rfl, rfl⟩, rfl, trivial⟩, _, St.leW_refl _, hE, by dsimp only; omega, rfl, hW⟩, ?_⟩
  clear hE
  rintro ⟨i, ⟨va, vb, vc, vd, ve, vf, ks⟩⟩ S1 ⟨g1, g2, g3, g4⟩
  dsimp only at g1 g2 g3 g4
  conv => whnf
  intro _
  conv => whnf
  refine split_of (fun hlt => ?_) (fun hlt => ?_)
  · have hlt : i < ls.length := by have := of_decide_eq_true hlt; rw [rowsS_len] at this; omega
    have hd : ls.drop i = ls[i] :: ls.drop (i + 1) := List.drop_eq_getElem_cons hlt
    rw [hd] at g4
    unfold wgGo at g4
    have ga : (rowsS ls)[(i : Int).toNat]? = some [.str ls[i]] := by simp [rowsS, hlt]
    have hx := hsz2 ls[i] (List.getElem_mem hlt)
    have hxs := hsz ls[i] (List.getElem_mem hlt)
    have w1 : IntKind.i64.wrap ((i : Int) + 1) = ((i + 1 : Nat) : Int) := wrap_nat (by omega)
    generalize ls[i] = x at *
    have hp := Parse_ref_ok (G := G) x hx
    obtain ⟨hk0, hk1⟩ := parseP_kind x
    obtain ⟨pp, hpp⟩ : ∃ p, parseP x = p := ⟨_, rfl⟩
    rw [hpp] at hp hk0 hk1 g4
    obtain ⟨pv, pe⟩ := pp
    dsimp only at hp hk0 hk1 g4
    conv => whnf
    refine ⟨_, ⟨by omega, ga⟩, ?_⟩
    conv => whnf
    refine (hp _).mono ?_
    rintro o T2 ⟨rfl, rfl⟩
    conv => whnf
    intro b7 hb7
    conv => whnf
    refine ⟨_, _, St.upd_same _ _ _, ?_⟩
    conv => whnf
    rw [St.upd_upd]
    have hE := g1.more hb7 (.obj 54 (stepM pv))
    have q7 := St.upd_same T2 b7 (.obj 54 (stepM pv))
    unfold stepM at hE q7
    have n47 : b4 ≠ b7 := fun e => by rw [← e, g1.w4] at hb7; cases hb7
    generalize T2.upd b7 (.obj 54 [.int .i64 pv.kind, .str pv.num, .sl .any 3 (rowsO pv.ops), .sl .any 2 (rowsP pv.pieces), .str pv.bound, .sl .any 1 (rowsI pv.lits), .sl .any 1 (rowsS pv.ids), .int .i64 pv.n6, .str pv.s7, .str pv.s8]) = F1 at *
    clear g1 hb7
    by_cases he : pe = 0
    · subst he
      rw [if_pos rfl] at g4
      conv => whnf
      refine ⟨_, _, hE.w4, ?_⟩
      conv => whnf
      refine ⟨_, _, hE.w4, ?_⟩
      rw [when_iff]
      refine ⟨by rw [wgC_len]; dsimp only; rw [g3]; rfl, ?_⟩
      rw [forceL_eq, (show ∀ Z : Int, Z = IntKind.i64.wrap (va + 1) → setRange (wgC ⟨va, vb, vc, vd, ve, vf, ks⟩) (0 + 0) (cellsOf (AV.int .i64 Z)) = wgC ⟨Wr (va + 1), vb, vc, vd, ve, vf, ks⟩ from fun _ h => by rw [h]; rfl)]
      rotate_left
      · first | rfl | (dsimp only; rw [rowsS_len])
      conv => whnf
      have hE1 := hE.put (wgC ⟨Wr (va + 1), vb, vc, vd, ve, vf, ks⟩)
      have q71 := St.ov n47.symm q7 (p := .obj 63 (wgC ⟨Wr (va + 1), vb, vc, vd, ve, vf, ks⟩))
      generalize F1.upd b4 (.obj 63 (wgC ⟨Wr (va + 1), vb, vc, vd, ve, vf, ks⟩)) = F2 at *
      clear hE q7
      refine ⟨[], (.free 0 (.free 1 (.free 2 (.free 3 (.free 4 (.free 5 (.free 6 (.one 7 (.free 8 (.one 9 .done .none)) .none)))))))), _, by decide +kernel, ?_, fun _ _ h => ⟨_, .inl rfl, h⟩⟩
      conv => whnf
      refine ⟨_, _, hE1.w4, ?_⟩
      conv => whnf
      refine ⟨_, ⟨by dsimp only; omega, ga⟩, ?_⟩
      conv => whnf
      refine ⟨_, _, hE1.w4, ?_⟩
      rw [when_iff]
      refine ⟨by rw [wgC_len]; dsimp only; rw [g3]; rfl, ?_⟩
      rw [forceL_eq, (show ∀ Z : Int, Z = mxI vf x.size → setRange (wgC ⟨Wr (va + 1), vb, vc, vd, ve, vf, ks⟩) (0 + 5) (cellsOf (AV.int .i64 Z)) = wgC ⟨Wr (va + 1), vb, vc, vd, ve, mxI vf x.size, ks⟩ from fun _ h => by rw [h]; rfl)]
      rotate_left
      · first | rfl | (dsimp only; rw [rowsS_len])
      conv => whnf
      have hE2 := hE1.put (wgC ⟨Wr (va + 1), vb, vc, vd, ve, mxI vf x.size, ks⟩)
      have q72 := St.ov n47.symm q71 (p := .obj 63 (wgC ⟨Wr (va + 1), vb, vc, vd, ve, mxI vf x.size, ks⟩))
      generalize F2.upd b4 (.obj 63 (wgC ⟨Wr (va + 1), vb, vc, vd, ve, mxI vf x.size, ks⟩)) = F3 at *
      clear hE1 q71
      refine ⟨_, _, q72, ?_⟩
      conv => whnf
      rw [show decide (pv.kind ≥ 0) = true from decide_eq_true hk0]
      conv => whnf
      refine ⟨_, _, q72, ?_⟩
      conv => whnf
      rw [show decide (pv.kind < 13) = true from decide_eq_true hk1]
      conv => whnf
      refine ⟨[], (.free 0 (.free 1 (.free 2 (.free 3 (.free 4 (.free 5 (.free 6 (.free 7 (.free 8 (.free 9 (.one 10 .done .none))))))))))), _, by decide +kernel, ?_, fun _ _ h => ⟨_, .inl rfl, h⟩⟩
      conv => whnf
      refine ⟨_, _, q72, ?_⟩
      conv => whnf
      refine ⟨_, _, q72, ?_⟩
      conv => whnf
      refine ⟨⟨hk0, hk1⟩, ?_⟩
      conv => whnf
      refine ⟨_, _, hE2.w4, ?_⟩
      conv => whnf
      have hkn : pv.kind.toNat < ks.length := by omega
      rw [show List.drop (0 + 6 + pv.kind.toNat * ((C G).T 3).size) (wgC ⟨Wr (va + 1), vb, vc, vd, ve, mxI vf x.size, ks⟩) = .int .i64 (ks.getD pv.kind.toNat 0) :: rowsOfI (ks.drop (pv.kind.toNat + 1)) from wg_drop (by show 0 + 6 + pv.kind.toNat * 1 = _; omega) hkn]
      conv => whnf
      refine ⟨⟨hk0, hk1⟩, ?_⟩
      conv => whnf
      refine ⟨_, _, hE2.w4, ?_⟩
      rw [when_iff]
      refine ⟨by rw [wgC_len]; dsimp only; rw [g3]; exact Nat.ble_eq_true_of_le (show 0 + 6 + pv.kind.toNat * 1 + 1 ≤ 6 + 13 by omega), ?_⟩
      rw [forceL_eq, (show ∀ Z : Int, Z = Wr (ks.getD pv.kind.toNat 0 + 1) → setRange (wgC ⟨Wr (va + 1), vb, vc, vd, ve, mxI vf x.size, ks⟩) (0 + 6 + pv.kind.toNat * ((C G).T 3).size) (cellsOf (AV.int .i64 Z)) = wgC ⟨Wr (va + 1), vb, vc, vd, ve, mxI vf x.size, upK ks pv.kind.toNat⟩ from fun _ h => by rw [h]; exact wg_set (by show 0 + 6 + pv.kind.toNat * 1 = _; omega))]
      rotate_left
      · rfl
      conv => whnf
      have hE3 := hE2.put (wgC ⟨Wr (va + 1), vb, vc, vd, ve, mxI vf x.size, upK ks pv.kind.toNat⟩)
      have q73 := St.ov n47.symm q72 (p := .obj 63 (wgC ⟨Wr (va + 1), vb, vc, vd, ve, mxI vf x.size, upK ks pv.kind.toNat⟩))
      generalize F3.upd b4 (.obj 63 (wgC ⟨Wr (va + 1), vb, vc, vd, ve, mxI vf x.size, upK ks pv.kind.toNat⟩)) = F4 at *
      clear hE2 q72
      have g3 : (upK ks pv.kind.toNat).length = 13 := by rw [upK_len]; exact g3
      refine ⟨_, _, q73, ?_⟩
      conv => whnf
      cases hb3 : (pv.kind == 3) with
      | true =>
        conv => whnf
        have hrk : isRowK pv.kind = true := by unfold isRowK; simp only [hb3]; rfl
        refine ⟨_, _, hE3.w4, ?_⟩
        conv => whnf
        refine ⟨_, _, hE3.w4, ?_⟩
        rw [when_iff]
        refine ⟨by rw [wgC_len]; dsimp only; rw [g3]; rfl, ?_⟩
        rw [forceL_eq, (show ∀ Z : Int, Z = Wr (vc + 1) → setRange (wgC ⟨Wr (va + 1), vb, vc, vd, ve, mxI vf x.size, upK ks pv.kind.toNat⟩) (0 + 2) (cellsOf (AV.int .i64 Z)) = wgC ⟨Wr (va + 1), vb, Wr (vc + 1), vd, ve, mxI vf x.size, upK ks pv.kind.toNat⟩ from fun _ h => by rw [h]; rfl)]
        rotate_left
        · first | rfl | (dsimp only; rw [rowsS_len])
        conv => whnf
        have hE4 := hE3.put (wgC ⟨Wr (va + 1), vb, Wr (vc + 1), vd, ve, mxI vf x.size, upK ks pv.kind.toNat⟩)
        have q74 := St.ov n47.symm q73 (p := .obj 63 (wgC ⟨Wr (va + 1), vb, Wr (vc + 1), vd, ve, mxI vf x.size, upK ks pv.kind.toNat⟩))
        refine ⟨_, _, q74, ?_⟩
        conv => whnf
        cases hb6 : (pv.kind == 6) with
        | true =>
          have h6p : pv.kind = 6 := by simpa using hb6
          conv => whnf
          refine ⟨_, _, hE4.w4, ?_⟩
          conv => whnf
          refine ⟨_, _, q74, ?_⟩
          conv => whnf
          intro _
          conv => whnf
          refine ⟨_, _, hE4.w4, ?_⟩
          rw [when_iff]
          refine ⟨by rw [wgC_len]; dsimp only; rw [g3]; rfl, ?_⟩
          rw [forceL_eq, (show ∀ Z : Int, Z = Wr (vd + pv.ids.length) → setRange (wgC ⟨Wr (va + 1), vb, Wr (vc + 1), vd, ve, mxI vf x.size, upK ks pv.kind.toNat⟩) (0 + 3) (cellsOf (AV.int .i64 Z)) = wgC ⟨Wr (va + 1), vb, Wr (vc + 1), Wr (vd + pv.ids.length), ve, mxI vf x.size, upK ks pv.kind.toNat⟩ from fun _ h => by rw [h]; rfl)]
          rotate_left
          · first | rfl | (dsimp only; rw [rowsS_len])
          conv => whnf
          have hE6 := hE4.put (wgC ⟨Wr (va + 1), vb, Wr (vc + 1), Wr (vd + pv.ids.length), ve, mxI vf x.size, upK ks pv.kind.toNat⟩)
          have hst : wgStep ⟨va, vb, vc, vd, ve, vf, ks⟩ pv.kind pv.ids.length x.size = ⟨Wr (va + 1), vb, Wr (vc + 1), Wr (vd + pv.ids.length), mxI ve (Wr (Wr (vc + 1) - Wr (vd + pv.ids.length))), mxI vf x.size, upK ks pv.kind.toNat⟩ := by
            unfold wgStep
            rw [show isRowK pv.kind = _ from hrk]
            dsimp only
            rw [if_pos h6p]
            rfl
          rw [hst] at g4
          refine ⟨_, _, hE6.w4, ?_⟩
          conv => whnf
          refine ⟨_, _, hE6.w4, ?_⟩
          conv => whnf
          refine ⟨_, _, hE6.w4, ?_⟩
          conv => whnf
          refine ⟨_, _, hE6.w4, ?_⟩
          rw [when_iff]
          refine ⟨by rw [wgC_len]; dsimp only; rw [g3]; rfl, ?_⟩
          rw [forceL_eq, (show ∀ Z : Int, Z = mxI ve (Wr (Wr (vc + 1) - Wr (vd + pv.ids.length))) → setRange (wgC ⟨Wr (va + 1), vb, Wr (vc + 1), Wr (vd + pv.ids.length), ve, mxI vf x.size, upK ks pv.kind.toNat⟩) (0 + 4) (cellsOf (AV.int .i64 Z)) = wgC ⟨Wr (va + 1), vb, Wr (vc + 1), Wr (vd + pv.ids.length), mxI ve (Wr (Wr (vc + 1) - Wr (vd + pv.ids.length))), mxI vf x.size, upK ks pv.kind.toNat⟩ from fun _ h => by rw [h]; rfl)]
          rotate_left
          · first | rfl | (dsimp only; rw [rowsS_len])
          conv => whnf
          exact ⟨(i + 1, ⟨Wr (va + 1), vb, Wr (vc + 1), Wr (vd + pv.ids.length), mxI ve (Wr (Wr (vc + 1) - Wr (vd + pv.ids.length))), mxI vf x.size, upK ks pv.kind.toNat⟩), ⟨rfl, rfl, rfl, ⟨rfl, rfl⟩, congrArg _ w1, trivial⟩, ⟨_, St.leW_refl _, hE6.put _, hlt, g3, g4⟩, by show ls.length - (i + 1) < ls.length - i; omega⟩
        | false =>
          have h6p : ¬ pv.kind = 6 := by simpa using hb6
          conv => whnf
          have hst : wgStep ⟨va, vb, vc, vd, ve, vf, ks⟩ pv.kind pv.ids.length x.size = ⟨Wr (va + 1), vb, Wr (vc + 1), vd, mxI ve (Wr (Wr (vc + 1) - vd)), mxI vf x.size, upK ks pv.kind.toNat⟩ := by
            unfold wgStep
            rw [show isRowK pv.kind = _ from hrk]
            dsimp only
            rw [if_neg h6p]
            rfl
          rw [hst] at g4
          refine ⟨_, _, hE4.w4, ?_⟩
          conv => whnf
          refine ⟨_, _, hE4.w4, ?_⟩
          conv => whnf
          refine ⟨_, _, hE4.w4, ?_⟩
          conv => whnf
          refine ⟨_, _, hE4.w4, ?_⟩
          rw [when_iff]
          refine ⟨by rw [wgC_len]; dsimp only; rw [g3]; rfl, ?_⟩
          rw [forceL_eq, (show ∀ Z : Int, Z = mxI ve (Wr (Wr (vc + 1) - vd)) → setRange (wgC ⟨Wr (va + 1), vb, Wr (vc + 1), vd, ve, mxI vf x.size, upK ks pv.kind.toNat⟩) (0 + 4) (cellsOf (AV.int .i64 Z)) = wgC ⟨Wr (va + 1), vb, Wr (vc + 1), vd, mxI ve (Wr (Wr (vc + 1) - vd)), mxI vf x.size, upK ks pv.kind.toNat⟩ from fun _ h => by rw [h]; rfl)]
          rotate_left
          · first | rfl | (dsimp only; rw [rowsS_len])
          conv => whnf
          exact ⟨(i + 1, ⟨Wr (va + 1), vb, Wr (vc + 1), vd, mxI ve (Wr (Wr (vc + 1) - vd)), mxI vf x.size, upK ks pv.kind.toNat⟩), ⟨rfl, rfl, rfl, ⟨rfl, rfl⟩, congrArg _ w1, trivial⟩, ⟨_, St.leW_refl _, hE4.put _, hlt, g3, g4⟩, by show ls.length - (i + 1) < ls.length - i; omega⟩
      | false =>
        conv => whnf
        refine ⟨_, _, q73, ?_⟩
        conv => whnf
        cases hb4 : (pv.kind == 4) with
        | true =>
          conv => whnf
          have hrk : isRowK pv.kind = true := by unfold isRowK; simp only [hb3, hb4]; rfl
          refine ⟨_, _, hE3.w4, ?_⟩
          conv => whnf
          refine ⟨_, _, hE3.w4, ?_⟩
          rw [when_iff]
          refine ⟨by rw [wgC_len]; dsimp only; rw [g3]; rfl, ?_⟩
          rw [forceL_eq, (show ∀ Z : Int, Z = Wr (vc + 1) → setRange (wgC ⟨Wr (va + 1), vb, vc, vd, ve, mxI vf x.size, upK ks pv.kind.toNat⟩) (0 + 2) (cellsOf (AV.int .i64 Z)) = wgC ⟨Wr (va + 1), vb, Wr (vc + 1), vd, ve, mxI vf x.size, upK ks pv.kind.toNat⟩ from fun _ h => by rw [h]; rfl)]
          rotate_left
          · first | rfl | (dsimp only; rw [rowsS_len])
          conv => whnf
          have hE4 := hE3.put (wgC ⟨Wr (va + 1), vb, Wr (vc + 1), vd, ve, mxI vf x.size, upK ks pv.kind.toNat⟩)
          have q74 := St.ov n47.symm q73 (p := .obj 63 (wgC ⟨Wr (va + 1), vb, Wr (vc + 1), vd, ve, mxI vf x.size, upK ks pv.kind.toNat⟩))
          refine ⟨_, _, q74, ?_⟩
          conv => whnf
          cases hb6 : (pv.kind == 6) with
          | true =>
            have h6p : pv.kind = 6 := by simpa using hb6
            conv => whnf
            refine ⟨_, _, hE4.w4, ?_⟩
            conv => whnf
            refine ⟨_, _, q74, ?_⟩
            conv => whnf
            intro _
            conv => whnf
            refine ⟨_, _, hE4.w4, ?_⟩
            rw [when_iff]
            refine ⟨by rw [wgC_len]; dsimp only; rw [g3]; rfl, ?_⟩
            rw [forceL_eq, (show ∀ Z : Int, Z = Wr (vd + pv.ids.length) → setRange (wgC ⟨Wr (va + 1), vb, Wr (vc + 1), vd, ve, mxI vf x.size, upK ks pv.kind.toNat⟩) (0 + 3) (cellsOf (AV.int .i64 Z)) = wgC ⟨Wr (va + 1), vb, Wr (vc + 1), Wr (vd + pv.ids.length), ve, mxI vf x.size, upK ks pv.kind.toNat⟩ from fun _ h => by rw [h]; rfl)]
            rotate_left
            · first | rfl | (dsimp only; rw [rowsS_len])
            conv => whnf
            have hE6 := hE4.put (wgC ⟨Wr (va + 1), vb, Wr (vc + 1), Wr (vd + pv.ids.length), ve, mxI vf x.size, upK ks pv.kind.toNat⟩)
            have hst : wgStep ⟨va, vb, vc, vd, ve, vf, ks⟩ pv.kind pv.ids.length x.size = ⟨Wr (va + 1), vb, Wr (vc + 1), Wr (vd + pv.ids.length), mxI ve (Wr (Wr (vc + 1) - Wr (vd + pv.ids.length))), mxI vf x.size, upK ks pv.kind.toNat⟩ := by
              unfold wgStep
              rw [show isRowK pv.kind = _ from hrk]
              dsimp only
              rw [if_pos h6p]
              rfl
            rw [hst] at g4
            refine ⟨_, _, hE6.w4, ?_⟩
            conv => whnf
            refine ⟨_, _, hE6.w4, ?_⟩
            conv => whnf
            refine ⟨_, _, hE6.w4, ?_⟩
            conv => whnf
            refine ⟨_, _, hE6.w4, ?_⟩
            rw [when_iff]
            refine ⟨by rw [wgC_len]; dsimp only; rw [g3]; rfl, ?_⟩
            rw [forceL_eq, (show ∀ Z : Int, Z = mxI ve (Wr (Wr (vc + 1) - Wr (vd + pv.ids.length))) → setRange (wgC ⟨Wr (va + 1), vb, Wr (vc + 1), Wr (vd + pv.ids.length), ve, mxI vf x.size, upK ks pv.kind.toNat⟩) (0 + 4) (cellsOf (AV.int .i64 Z)) = wgC ⟨Wr (va + 1), vb, Wr (vc + 1), Wr (vd + pv.ids.length), mxI ve (Wr (Wr (vc + 1) - Wr (vd + pv.ids.length))), mxI vf x.size, upK ks pv.kind.toNat⟩ from fun _ h => by rw [h]; rfl)]
            rotate_left
            · first | rfl | (dsimp only; rw [rowsS_len])
            conv => whnf
            exact ⟨(i + 1, ⟨Wr (va + 1), vb, Wr (vc + 1), Wr (vd + pv.ids.length), mxI ve (Wr (Wr (vc + 1) - Wr (vd + pv.ids.length))), mxI vf x.size, upK ks pv.kind.toNat⟩), ⟨rfl, rfl, rfl, ⟨rfl, rfl⟩, congrArg _ w1, trivial⟩, ⟨_, St.leW_refl _, hE6.put _, hlt, g3, g4⟩, by show ls.length - (i + 1) < ls.length - i; omega⟩
          | false =>
            have h6p : ¬ pv.kind = 6 := by simpa using hb6
            conv => whnf
            have hst : wgStep ⟨va, vb, vc, vd, ve, vf, ks⟩ pv.kind pv.ids.length x.size = ⟨Wr (va + 1), vb, Wr (vc + 1), vd, mxI ve (Wr (Wr (vc + 1) - vd)), mxI vf x.size, upK ks pv.kind.toNat⟩ := by
              unfold wgStep
              rw [show isRowK pv.kind = _ from hrk]
              dsimp only
              rw [if_neg h6p]
              rfl
            rw [hst] at g4
            refine ⟨_, _, hE4.w4, ?_⟩
            conv => whnf
            refine ⟨_, _, hE4.w4, ?_⟩
            conv => whnf
            refine ⟨_, _, hE4.w4, ?_⟩
            conv => whnf
            refine ⟨_, _, hE4.w4, ?_⟩
            rw [when_iff]
            refine ⟨by rw [wgC_len]; dsimp only; rw [g3]; rfl, ?_⟩
            rw [forceL_eq, (show ∀ Z : Int, Z = mxI ve (Wr (Wr (vc + 1) - vd)) → setRange (wgC ⟨Wr (va + 1), vb, Wr (vc + 1), vd, ve, mxI vf x.size, upK ks pv.kind.toNat⟩) (0 + 4) (cellsOf (AV.int .i64 Z)) = wgC ⟨Wr (va + 1), vb, Wr (vc + 1), vd, mxI ve (Wr (Wr (vc + 1) - vd)), mxI vf x.size, upK ks pv.kind.toNat⟩ from fun _ h => by rw [h]; rfl)]
            rotate_left
            · first | rfl | (dsimp only; rw [rowsS_len])
            conv => whnf
            exact ⟨(i + 1, ⟨Wr (va + 1), vb, Wr (vc + 1), vd, mxI ve (Wr (Wr (vc + 1) - vd)), mxI vf x.size, upK ks pv.kind.toNat⟩), ⟨rfl, rfl, rfl, ⟨rfl, rfl⟩, congrArg _ w1, trivial⟩, ⟨_, St.leW_refl _, hE4.put _, hlt, g3, g4⟩, by show ls.length - (i + 1) < ls.length - i; omega⟩
        | false =>
          conv => whnf
          refine ⟨_, _, q73, ?_⟩
          conv => whnf
          cases hb11 : (pv.kind == 11) with
          | true =>
            conv => whnf
            have hrk : isRowK pv.kind = true := by unfold isRowK; simp only [hb3, hb4, hb11]; rfl
            refine ⟨_, _, hE3.w4, ?_⟩
            conv => whnf
            refine ⟨_, _, hE3.w4, ?_⟩
            rw [when_iff]
            refine ⟨by rw [wgC_len]; dsimp only; rw [g3]; rfl, ?_⟩
            rw [forceL_eq, (show ∀ Z : Int, Z = Wr (vc + 1) → setRange (wgC ⟨Wr (va + 1), vb, vc, vd, ve, mxI vf x.size, upK ks pv.kind.toNat⟩) (0 + 2) (cellsOf (AV.int .i64 Z)) = wgC ⟨Wr (va + 1), vb, Wr (vc + 1), vd, ve, mxI vf x.size, upK ks pv.kind.toNat⟩ from fun _ h => by rw [h]; rfl)]
            rotate_left
            · first | rfl | (dsimp only; rw [rowsS_len])
            conv => whnf
            have hE4 := hE3.put (wgC ⟨Wr (va + 1), vb, Wr (vc + 1), vd, ve, mxI vf x.size, upK ks pv.kind.toNat⟩)
            have q74 := St.ov n47.symm q73 (p := .obj 63 (wgC ⟨Wr (va + 1), vb, Wr (vc + 1), vd, ve, mxI vf x.size, upK ks pv.kind.toNat⟩))
            refine ⟨_, _, q74, ?_⟩
            conv => whnf
            cases hb6 : (pv.kind == 6) with
            | true =>
              have h6p : pv.kind = 6 := by simpa using hb6
              conv => whnf
              refine ⟨_, _, hE4.w4, ?_⟩
              conv => whnf
              refine ⟨_, _, q74, ?_⟩
              conv => whnf
              intro _
              conv => whnf
              refine ⟨_, _, hE4.w4, ?_⟩
              rw [when_iff]
              refine ⟨by rw [wgC_len]; dsimp only; rw [g3]; rfl, ?_⟩
              rw [forceL_eq, (show ∀ Z : Int, Z = Wr (vd + pv.ids.length) → setRange (wgC ⟨Wr (va + 1), vb, Wr (vc + 1), vd, ve, mxI vf x.size, upK ks pv.kind.toNat⟩) (0 + 3) (cellsOf (AV.int .i64 Z)) = wgC ⟨Wr (va + 1), vb, Wr (vc + 1), Wr (vd + pv.ids.length), ve, mxI vf x.size, upK ks pv.kind.toNat⟩ from fun _ h => by rw [h]; rfl)]
              rotate_left
              · first | rfl | (dsimp only; rw [rowsS_len])
              conv => whnf
              have hE6 := hE4.put (wgC ⟨Wr (va + 1), vb, Wr (vc + 1), Wr (vd + pv.ids.length), ve, mxI vf x.size, upK ks pv.kind.toNat⟩)
              have hst : wgStep ⟨va, vb, vc, vd, ve, vf, ks⟩ pv.kind pv.ids.length x.size = ⟨Wr (va + 1), vb, Wr (vc + 1), Wr (vd + pv.ids.length), mxI ve (Wr (Wr (vc + 1) - Wr (vd + pv.ids.length))), mxI vf x.size, upK ks pv.kind.toNat⟩ := by
                unfold wgStep
                rw [show isRowK pv.kind = _ from hrk]
                dsimp only
                rw [if_pos h6p]
                rfl
              rw [hst] at g4
              refine ⟨_, _, hE6.w4, ?_⟩
              conv => whnf
              refine ⟨_, _, hE6.w4, ?_⟩
              conv => whnf
              refine ⟨_, _, hE6.w4, ?_⟩
              conv => whnf
              refine ⟨_, _, hE6.w4, ?_⟩
              rw [when_iff]
              refine ⟨by rw [wgC_len]; dsimp only; rw [g3]; rfl, ?_⟩
              rw [forceL_eq, (show ∀ Z : Int, Z = mxI ve (Wr (Wr (vc + 1) - Wr (vd + pv.ids.length))) → setRange (wgC ⟨Wr (va + 1), vb, Wr (vc + 1), Wr (vd + pv.ids.length), ve, mxI vf x.size, upK ks pv.kind.toNat⟩) (0 + 4) (cellsOf (AV.int .i64 Z)) = wgC ⟨Wr (va + 1), vb, Wr (vc + 1), Wr (vd + pv.ids.length), mxI ve (Wr (Wr (vc + 1) - Wr (vd + pv.ids.length))), mxI vf x.size, upK ks pv.kind.toNat⟩ from fun _ h => by rw [h]; rfl)]
              rotate_left
              · first | rfl | (dsimp only; rw [rowsS_len])
              conv => whnf
              exact ⟨(i + 1, ⟨Wr (va + 1), vb, Wr (vc + 1), Wr (vd + pv.ids.length), mxI ve (Wr (Wr (vc + 1) - Wr (vd + pv.ids.length))), mxI vf x.size, upK ks pv.kind.toNat⟩), ⟨rfl, rfl, rfl, ⟨rfl, rfl⟩, congrArg _ w1, trivial⟩, ⟨_, St.leW_refl _, hE6.put _, hlt, g3, g4⟩, by show ls.length - (i + 1) < ls.length - i; omega⟩
            | false =>
              have h6p : ¬ pv.kind = 6 := by simpa using hb6
              conv => whnf
              have hst : wgStep ⟨va, vb, vc, vd, ve, vf, ks⟩ pv.kind pv.ids.length x.size = ⟨Wr (va + 1), vb, Wr (vc + 1), vd, mxI ve (Wr (Wr (vc + 1) - vd)), mxI vf x.size, upK ks pv.kind.toNat⟩ := by
                unfold wgStep
                rw [show isRowK pv.kind = _ from hrk]
                dsimp only
                rw [if_neg h6p]
                rfl
              rw [hst] at g4
              refine ⟨_, _, hE4.w4, ?_⟩
              conv => whnf
              refine ⟨_, _, hE4.w4, ?_⟩
              conv => whnf
              refine ⟨_, _, hE4.w4, ?_⟩
              conv => whnf
              refine ⟨_, _, hE4.w4, ?_⟩
              rw [when_iff]
              refine ⟨by rw [wgC_len]; dsimp only; rw [g3]; rfl, ?_⟩
              rw [forceL_eq, (show ∀ Z : Int, Z = mxI ve (Wr (Wr (vc + 1) - vd)) → setRange (wgC ⟨Wr (va + 1), vb, Wr (vc + 1), vd, ve, mxI vf x.size, upK ks pv.kind.toNat⟩) (0 + 4) (cellsOf (AV.int .i64 Z)) = wgC ⟨Wr (va + 1), vb, Wr (vc + 1), vd, mxI ve (Wr (Wr (vc + 1) - vd)), mxI vf x.size, upK ks pv.kind.toNat⟩ from fun _ h => by rw [h]; rfl)]
              rotate_left
              · first | rfl | (dsimp only; rw [rowsS_len])
              conv => whnf
              exact ⟨(i + 1, ⟨Wr (va + 1), vb, Wr (vc + 1), vd, mxI ve (Wr (Wr (vc + 1) - vd)), mxI vf x.size, upK ks pv.kind.toNat⟩), ⟨rfl, rfl, rfl, ⟨rfl, rfl⟩, congrArg _ w1, trivial⟩, ⟨_, St.leW_refl _, hE4.put _, hlt, g3, g4⟩, by show ls.length - (i + 1) < ls.length - i; omega⟩
          | false =>
            have hrk : isRowK pv.kind = false := by unfold isRowK; simp only [hb3, hb4, hb11]; rfl
            conv => whnf
            refine ⟨_, _, q73, ?_⟩
            conv => whnf
            cases hb6 : (pv.kind == 6) with
            | true =>
              have h6p : pv.kind = 6 := by simpa using hb6
              conv => whnf
              refine ⟨_, _, hE3.w4, ?_⟩
              conv => whnf
              refine ⟨_, _, q73, ?_⟩
              conv => whnf
              intro _
              conv => whnf
              refine ⟨_, _, hE3.w4, ?_⟩
              rw [when_iff]
              refine ⟨by rw [wgC_len]; dsimp only; rw [g3]; rfl, ?_⟩
              rw [forceL_eq, (show ∀ Z : Int, Z = Wr (vd + pv.ids.length) → setRange (wgC ⟨Wr (va + 1), vb, vc, vd, ve, mxI vf x.size, upK ks pv.kind.toNat⟩) (0 + 3) (cellsOf (AV.int .i64 Z)) = wgC ⟨Wr (va + 1), vb, vc, Wr (vd + pv.ids.length), ve, mxI vf x.size, upK ks pv.kind.toNat⟩ from fun _ h => by rw [h]; rfl)]
              rotate_left
              · first | rfl | (dsimp only; rw [rowsS_len])
              conv => whnf
              have hE6 := hE3.put (wgC ⟨Wr (va + 1), vb, vc, Wr (vd + pv.ids.length), ve, mxI vf x.size, upK ks pv.kind.toNat⟩)
              have hst : wgStep ⟨va, vb, vc, vd, ve, vf, ks⟩ pv.kind pv.ids.length x.size = ⟨Wr (va + 1), vb, vc, Wr (vd + pv.ids.length), mxI ve (Wr (vc - Wr (vd + pv.ids.length))), mxI vf x.size, upK ks pv.kind.toNat⟩ := by
                unfold wgStep
                rw [show isRowK pv.kind = _ from hrk]
                dsimp only
                rw [if_pos h6p]
                rfl
              rw [hst] at g4
              refine ⟨_, _, hE6.w4, ?_⟩
              conv => whnf
              refine ⟨_, _, hE6.w4, ?_⟩
              conv => whnf
              refine ⟨_, _, hE6.w4, ?_⟩
              conv => whnf
              refine ⟨_, _, hE6.w4, ?_⟩
              rw [when_iff]
              refine ⟨by rw [wgC_len]; dsimp only; rw [g3]; rfl, ?_⟩
              rw [forceL_eq, (show ∀ Z : Int, Z = mxI ve (Wr (vc - Wr (vd + pv.ids.length))) → setRange (wgC ⟨Wr (va + 1), vb, vc, Wr (vd + pv.ids.length), ve, mxI vf x.size, upK ks pv.kind.toNat⟩) (0 + 4) (cellsOf (AV.int .i64 Z)) = wgC ⟨Wr (va + 1), vb, vc, Wr (vd + pv.ids.length), mxI ve (Wr (vc - Wr (vd + pv.ids.length))), mxI vf x.size, upK ks pv.kind.toNat⟩ from fun _ h => by rw [h]; rfl)]
              rotate_left
              · first | rfl | (dsimp only; rw [rowsS_len])
              conv => whnf
              exact ⟨(i + 1, ⟨Wr (va + 1), vb, vc, Wr (vd + pv.ids.length), mxI ve (Wr (vc - Wr (vd + pv.ids.length))), mxI vf x.size, upK ks pv.kind.toNat⟩), ⟨rfl, rfl, rfl, ⟨rfl, rfl⟩, congrArg _ w1, trivial⟩, ⟨_, St.leW_refl _, hE6.put _, hlt, g3, g4⟩, by show ls.length - (i + 1) < ls.length - i; omega⟩
            | false =>
              have h6p : ¬ pv.kind = 6 := by simpa using hb6
              conv => whnf
              have hst : wgStep ⟨va, vb, vc, vd, ve, vf, ks⟩ pv.kind pv.ids.length x.size = ⟨Wr (va + 1), vb, vc, vd, mxI ve (Wr (vc - vd)), mxI vf x.size, upK ks pv.kind.toNat⟩ := by
                unfold wgStep
                rw [show isRowK pv.kind = _ from hrk]
                dsimp only
                rw [if_neg h6p]
                rfl
              rw [hst] at g4
              refine ⟨_, _, hE3.w4, ?_⟩
              conv => whnf
              refine ⟨_, _, hE3.w4, ?_⟩
              conv => whnf
              refine ⟨_, _, hE3.w4, ?_⟩
              conv => whnf
              refine ⟨_, _, hE3.w4, ?_⟩
              rw [when_iff]
              refine ⟨by rw [wgC_len]; dsimp only; rw [g3]; rfl, ?_⟩
              rw [forceL_eq, (show ∀ Z : Int, Z = mxI ve (Wr (vc - vd)) → setRange (wgC ⟨Wr (va + 1), vb, vc, vd, ve, mxI vf x.size, upK ks pv.kind.toNat⟩) (0 + 4) (cellsOf (AV.int .i64 Z)) = wgC ⟨Wr (va + 1), vb, vc, vd, mxI ve (Wr (vc - vd)), mxI vf x.size, upK ks pv.kind.toNat⟩ from fun _ h => by rw [h]; rfl)]
              rotate_left
              · first | rfl | (dsimp only; rw [rowsS_len])
              conv => whnf
              exact ⟨(i + 1, ⟨Wr (va + 1), vb, vc, vd, mxI ve (Wr (vc - vd)), mxI vf x.size, upK ks pv.kind.toNat⟩), ⟨rfl, rfl, rfl, ⟨rfl, rfl⟩, congrArg _ w1, trivial⟩, ⟨_, St.leW_refl _, hE3.put _, hlt, g3, g4⟩, by show ls.length - (i + 1) < ls.length - i; omega⟩
    · rw [if_neg he] at g4
      rw [show (pe != 0) = true from by simpa using he]
      conv => whnf
      refine ⟨_, _, hE.w2, ?_⟩
      rw [when_iff]
      refine ⟨rfl, ?_⟩
      rw [forceL_eq, setRange_all (by rfl)]
      conv => whnf
      refine ⟨_, _, St.ov hE.n23.symm hE.w3, ?_⟩
      conv => whnf
      refine hQ _ _ _ (by simp) ?_
      conv => whnf
      refine ⟨_, _, St.ov hE.n23 (St.upd_same _ _ _), ?_⟩
      conv => whnf
      refine ⟨_, _, St.upd_same _ _ _, ?_⟩
      conv => whnf
      refine ⟨_, _, ⟨rfl, rfl⟩, hE.fin _ _, ?_⟩
      rw [← g4]
      exact AV.leS_refl _ _ _
  · have hlt : ¬ i < ls.length := by have := of_decide_eq_false hlt; rw [rowsS_len] at this; omega
    rw [List.drop_of_length_le (by omega)] at g4
    unfold wgGo at g4
    subst g4
    conv => whnf
    refine hK _ _ ?_
    clear hK hQ K
    conv => whnf
    refine ⟨_, _, g1.w4, ?_⟩
    obtain ⟨a0, a1, a2, a3, a4, a5, a6, a7, a8, a9, a10, a11, a12, rfl⟩ := len13 g3
    conv => whnf
    refine ⟨_, _, g1.w2, ?_⟩
    rw [when_iff]
    refine ⟨rfl, ?_⟩
    rw [forceL_eq, setRange_all (by rfl)]
    conv => whnf
    refine ⟨_, _, St.ov g1.n23.symm g1.w3, ?_⟩
    conv => whnf
    refine ⟨_, _, St.ov g1.n23 (St.upd_same _ _ _), ?_⟩
    conv => whnf
    refine ⟨_, _, St.upd_same _ _ _, ?_⟩
    conv => whnf
    exact ⟨_, _, ⟨rfl, rfl⟩, g1.fin _ _, AV.leS_refl _ _ _⟩
end Go.Proofs.YtcpdgnkhkdddhaaGreatDoor.Aw

set_option maxRecDepth 100000
set_option linter.unusedVariables false
set_option linter.unusedSimpArgs false
namespace Go.Proofs.YtcpdgnkhkdddhaaGreatDoor.Aw
open Go Go.RowKit
variable {G : Nat → Option (List AV)}

def scW (la ro go pe lo t : Int) : List AV := [.int .i64 la, .int .i64 0, .int .i64 ro, .int .i64 go, .int .i64 pe, .int .i64 lo, .int .i64 0, .int .i64 0, .int .i64 0, .int .i64 0, .int .i64 0, .int .i64 0, .int .i64 0, .int .i64 0, .int .i64 0, .int .i64 0, .int .i64 0, .int .i64 0, .int .i64 0, .int .i64 t]
def scC (v : WgV) : List AV := rowsOfI v.kinds ++ scW v.lines v.rows v.gone v.peak v.longest (Wr (v.rows - v.gone))
theorem sc_drop {ks : List Int} {X : List AV} {n o : Nat} (ho : o = n) (h : n < ks.length) : List.drop o (rowsOfI ks ++ X) = .int .i64 (ks.getD n 0) :: (rowsOfI (ks.drop (n + 1)) ++ X) := by
  subst ho
  rw [List.drop_append_of_le_length (by rw [rowsOfI_len]; omega)]
  unfold rowsOfI
  rw [← List.map_drop, List.drop_eq_getElem_cons h, List.map_cons]
  simp [h]
theorem sc_set {ks : List Int} {X : List AV} {z : Int} {n o : Nat} (ho : o = n) (h : n < ks.length) : setRange (rowsOfI ks ++ X) o [.int .i64 z] = rowsOfI (ks.set n z) ++ X := by
  subst ho
  show (rowsOfI ks ++ X).set o (.int .i64 z) = _
  rw [List.set_append_left _ _ (by rw [rowsOfI_len]; exact h)]
  unfold rowsOfI
  rw [List.map_set]
theorem scale_step_ok (v : WgV) (hk : v.kinds.length = 13) (pv : StepV) (hp : OkKind pv.kind) (line : ByteArray) (S : St) (sb : Nat) (h : S sb = some (.obj 128 (scC v))) :
    Triple P (C G) 64 [.ref sb 0, .ag (stepM pv), .str line] S fun o S' => o = .ret (.tu []) ∧ S' = S.upd sb (.obj 128 (scC (wgStep v pv.kind pv.ids.length line.size))) := by
  obtain ⟨la, bb, ro, go, pe, lo, ks⟩ := v
  obtain ⟨hk0, hk1⟩ := hp
  dsimp only at hk
  have h : S sb = some (.obj 128 (rowsOfI ks ++ scW la ro go pe lo (Wr (ro - go)))) := h
  obtain ⟨a0, a1, a2, a3, a4, a5, a6, a7, a8, a9, a10, a11, a12, hks⟩ := len13 ((upK_len ks pv.kind.toNat).trans hk)
  refine triple_of_awp (hT G) hm Tryz.func64 rfl (by decide +kernel) rfl (by decide +kernel) (by show 3 ≤ _; decide +kernel) rfl ?_
  refine awp_seq2 fun K hK hQ => ?_
  conv => whnf
  intro b hb
  conv => whnf
  refine hK _ _ ?_
  clear hK hQ K
  have q := St.upd_same S b (.obj 54 (stepM pv))
  have h1 := St.up (p := .obj 54 (stepM pv)) hb h
  have nb : sb ≠ b := fun e => by rw [e, hb] at h; cases h
  have hle : ∀ X, St.le (S.upd sb X) ((S.upd b (.obj 54 (stepM pv))).upd sb X) := fun X => St.le_upd2 (St.le_upd' (St.le_refl S) hb _) sb X
  unfold stepM at q h1 hle
  change awp _ _ _ _ (S.upd b (.obj 54 [.int .i64 pv.kind, .str pv.num, .sl .any 3 (rowsO pv.ops), .sl .any 2 (rowsP pv.pieces), .str pv.bound, .sl .any 1 (rowsI pv.lits), .sl .any 1 (rowsS pv.ids), .int .i64 pv.n6, .str pv.s7, .str pv.s8])) _
  generalize S.upd b (.obj 54 [.int .i64 pv.kind, .str pv.num, .sl .any 3 (rowsO pv.ops), .sl .any 2 (rowsP pv.pieces), .str pv.bound, .sl .any 1 (rowsI pv.lits), .sl .any 1 (rowsS pv.ids), .int .i64 pv.n6, .str pv.s7, .str pv.s8]) = F at *
  have hkn : pv.kind.toNat < ks.length := by omega
  refine awp_seq2 fun K hK hQ => ?_
  refine ⟨[], (.free 0 (.free 1 (.free 2 (.free 3 (.free 4 (.free 5 (.free 6 (.free 7 (.free 8 (.free 9 (.free 10 (.one 11 .done .none)))))))))))), _, by decide +kernel, ?_, fun _ _ h => ⟨_, .inl rfl, h⟩⟩
  conv => whnf
  refine ⟨_, _, q, ?_⟩
  conv => whnf
  refine ⟨⟨hk0, hk1⟩, ?_⟩
  conv => whnf
  refine ⟨_, _, h1, ?_⟩
  conv => whnf
  rw [show List.drop (0 + 0 + pv.kind.toNat * ((C G).T 3).size) (rowsOfI ks ++ scW la ro go pe lo (Wr (ro - go))) = .int .i64 (ks.getD pv.kind.toNat 0) :: (rowsOfI (ks.drop (pv.kind.toNat + 1)) ++ scW la ro go pe lo (Wr (ro - go))) from sc_drop (by show 0 + 0 + pv.kind.toNat * 1 = _; omega) hkn]
  conv => whnf
  refine ⟨⟨hk0, hk1⟩, ?_⟩
  conv => whnf
  refine ⟨_, _, h1, ?_⟩
  rw [when_iff]
  refine ⟨by rw [List.length_append, rowsOfI_len, hk]; exact Nat.ble_eq_true_of_le (show 0 + 0 + pv.kind.toNat * 1 + 1 ≤ 13 + 20 by omega), ?_⟩
  rw [forceL_eq, (show ∀ Z : Int, Z = Wr (ks.getD pv.kind.toNat 0 + 1) → setRange (rowsOfI ks ++ scW la ro go pe lo (Wr (ro - go))) (0 + 0 + pv.kind.toNat * ((C G).T 3).size) (cellsOf (AV.int .i64 Z)) = rowsOfI (upK ks pv.kind.toNat) ++ scW la ro go pe lo (Wr (ro - go)) from fun _ h => by rw [h]; exact sc_set (by show 0 + 0 + pv.kind.toNat * 1 = _; omega) hkn)]
  rotate_left
  · rfl
  rw [hks]
  conv => whnf
  refine hK _ _ ?_
  clear hK hQ K
  change awp _ _ _ _ (F.upd sb (.obj 128 (rowsOfI [a0, a1, a2, a3, a4, a5, a6, a7, a8, a9, a10, a11, a12] ++ scW la ro go pe lo (Wr (ro - go))))) _
  have hF1 := St.upd_same F sb (.obj 128 (rowsOfI [a0, a1, a2, a3, a4, a5, a6, a7, a8, a9, a10, a11, a12] ++ scW la ro go pe lo (Wr (ro - go))))
  have qF1 := St.ov nb.symm q (p := .obj 128 (rowsOfI [a0, a1, a2, a3, a4, a5, a6, a7, a8, a9, a10, a11, a12] ++ scW la ro go pe lo (Wr (ro - go))))
  have hleF1 : ∀ X, St.le (S.upd sb X) ((F.upd sb (.obj 128 (rowsOfI [a0, a1, a2, a3, a4, a5, a6, a7, a8, a9, a10, a11, a12] ++ scW la ro go pe lo (Wr (ro - go))))).upd sb X) := fun X => by rw [St.upd_upd]; exact hle X
  generalize F.upd sb (.obj 128 (rowsOfI [a0, a1, a2, a3, a4, a5, a6, a7, a8, a9, a10, a11, a12] ++ scW la ro go pe lo (Wr (ro - go)))) = F1 at *
  refine awp_seq2 fun K hK hQ => ?_
  conv => whnf
  refine ⟨_, _, hF1, ?_⟩
  conv => whnf
  refine ⟨_, _, hF1, ?_⟩
  conv => whnf
  refine hK _ _ ?_
  clear hK hQ K
  change awp _ _ _ _ (F1.upd sb (.obj 128 (rowsOfI [a0, a1, a2, a3, a4, a5, a6, a7, a8, a9, a10, a11, a12] ++ scW (Wr (la + 1)) ro go pe lo (Wr (ro - go))))) _
  have hF2 := St.upd_same F1 sb (.obj 128 (rowsOfI [a0, a1, a2, a3, a4, a5, a6, a7, a8, a9, a10, a11, a12] ++ scW (Wr (la + 1)) ro go pe lo (Wr (ro - go))))
  have qF2 := St.ov nb.symm qF1 (p := .obj 128 (rowsOfI [a0, a1, a2, a3, a4, a5, a6, a7, a8, a9, a10, a11, a12] ++ scW (Wr (la + 1)) ro go pe lo (Wr (ro - go))))
  have hleF2 : ∀ X, St.le (S.upd sb X) ((F1.upd sb (.obj 128 (rowsOfI [a0, a1, a2, a3, a4, a5, a6, a7, a8, a9, a10, a11, a12] ++ scW (Wr (la + 1)) ro go pe lo (Wr (ro - go))))).upd sb X) := fun X => by rw [St.upd_upd]; exact hleF1 X
  generalize F1.upd sb (.obj 128 (rowsOfI [a0, a1, a2, a3, a4, a5, a6, a7, a8, a9, a10, a11, a12] ++ scW (Wr (la + 1)) ro go pe lo (Wr (ro - go)))) = F2 at *
  refine awp_seq2 fun K hK hQ => ?_
  conv => whnf
  refine ⟨_, _, hF2, ?_⟩
  conv => whnf
  refine ⟨_, _, hF2, ?_⟩
  conv => whnf
  refine hK _ _ ?_
  clear hK hQ K
  change awp _ _ _ _ (F2.upd sb (.obj 128 (rowsOfI [a0, a1, a2, a3, a4, a5, a6, a7, a8, a9, a10, a11, a12] ++ scW (Wr (la + 1)) ro go pe (mxI lo line.size) (Wr (ro - go))))) _
  have hF3 := St.upd_same F2 sb (.obj 128 (rowsOfI [a0, a1, a2, a3, a4, a5, a6, a7, a8, a9, a10, a11, a12] ++ scW (Wr (la + 1)) ro go pe (mxI lo line.size) (Wr (ro - go))))
  have qF3 := St.ov nb.symm qF2 (p := .obj 128 (rowsOfI [a0, a1, a2, a3, a4, a5, a6, a7, a8, a9, a10, a11, a12] ++ scW (Wr (la + 1)) ro go pe (mxI lo line.size) (Wr (ro - go))))
  have hleF3 : ∀ X, St.le (S.upd sb X) ((F2.upd sb (.obj 128 (rowsOfI [a0, a1, a2, a3, a4, a5, a6, a7, a8, a9, a10, a11, a12] ++ scW (Wr (la + 1)) ro go pe (mxI lo line.size) (Wr (ro - go))))).upd sb X) := fun X => by rw [St.upd_upd]; exact hleF2 X
  generalize F2.upd sb (.obj 128 (rowsOfI [a0, a1, a2, a3, a4, a5, a6, a7, a8, a9, a10, a11, a12] ++ scW (Wr (la + 1)) ro go pe (mxI lo line.size) (Wr (ro - go)))) = F3 at *
  refine awp_seq2 fun K hK hQ => ?_
  conv => whnf
  refine ⟨_, _, qF3, ?_⟩
  conv => whnf
  cases hb3 : (pv.kind == 3) with
  | true =>
    conv => whnf
    refine ⟨_, _, hF3, ?_⟩
    conv => whnf
    refine ⟨_, _, hF3, ?_⟩
    conv => whnf
    refine ⟨_, _, St.upd_same _ _ _, ?_⟩
    conv => whnf
    refine ⟨_, _, St.upd_same _ _ _, ?_⟩
    conv => whnf
    rw [St.upd_upd]
    refine hK _ _ ?_
    clear hK hQ K
    change awp _ _ _ _ (F3.upd sb (.obj 128 (rowsOfI [a0, a1, a2, a3, a4, a5, a6, a7, a8, a9, a10, a11, a12] ++ scW (Wr (la + 1)) (Wr (ro + 1)) go pe (mxI lo line.size) (Wr (Wr (ro - go) + 1))))) _
    have hF5 := St.upd_same F3 sb (.obj 128 (rowsOfI [a0, a1, a2, a3, a4, a5, a6, a7, a8, a9, a10, a11, a12] ++ scW (Wr (la + 1)) (Wr (ro + 1)) go pe (mxI lo line.size) (Wr (Wr (ro - go) + 1))))
    have qF5 := St.ov nb.symm qF3 (p := .obj 128 (rowsOfI [a0, a1, a2, a3, a4, a5, a6, a7, a8, a9, a10, a11, a12] ++ scW (Wr (la + 1)) (Wr (ro + 1)) go pe (mxI lo line.size) (Wr (Wr (ro - go) + 1))))
    have hleF5 : ∀ X, St.le (S.upd sb X) ((F3.upd sb (.obj 128 (rowsOfI [a0, a1, a2, a3, a4, a5, a6, a7, a8, a9, a10, a11, a12] ++ scW (Wr (la + 1)) (Wr (ro + 1)) go pe (mxI lo line.size) (Wr (Wr (ro - go) + 1))))).upd sb X) := fun X => by rw [St.upd_upd]; exact hleF3 X
    generalize F3.upd sb (.obj 128 (rowsOfI [a0, a1, a2, a3, a4, a5, a6, a7, a8, a9, a10, a11, a12] ++ scW (Wr (la + 1)) (Wr (ro + 1)) go pe (mxI lo line.size) (Wr (Wr (ro - go) + 1)))) = F5 at *
    rw [rows_there] at hF5
    have h6 : ¬ pv.kind = 6 := by rintro h6; rw [h6] at hb3; revert hb3; decide
    -- F5 F, hF5 h, hleF5 hle, Wr (ro + 1) rows, go gone, qF5 q
    refine ⟨[], (.free 0 (.free 1 (.free 2 (.free 3 (.free 4 (.free 5 (.free 6 (.free 7 (.free 8 (.free 9 (.one 10 (.free 11 (.free 12 (.free 13 (.one 14 .done .none)))) .none))))))))))), _, by decide +kernel, ?_, fun _ _ h => ⟨_, .inl rfl, h⟩⟩
    conv => whnf
    refine ⟨_, _, hF5, ?_⟩
    conv => whnf
    refine ⟨_, _, hF5, ?_⟩
    conv => whnf
    refine ⟨_, _, hF5, ?_⟩
    conv => whnf
    refine ⟨_, _, ⟨rfl, rfl⟩, ?_, AV.leS_refl _ _ _⟩
    refine Eq.mp (congrArg (fun X => St.le (S.upd sb (.obj 128 X)) (F5.upd sb (.obj 128 (rowsOfI [a0, a1, a2, a3, a4, a5, a6, a7, a8, a9, a10, a11, a12] ++ scW (Wr (la + 1)) (Wr (ro + 1)) (go) (mxI pe (Wr (Wr (ro + 1) - go))) (mxI lo line.size) (Wr (Wr (ro + 1) - go)))))) ?_) (hleF5 _)
    unfold scC wgStep
    rw [show isRowK pv.kind = true from by unfold isRowK; simp only [hb3]; rfl]
    dsimp only
    rw [if_neg h6, hks]
    rfl
  | false =>
    conv => whnf
    cases hb4 : (pv.kind == 4) with
    | true =>
      conv => whnf
      refine ⟨_, _, hF3, ?_⟩
      conv => whnf
      refine ⟨_, _, hF3, ?_⟩
      conv => whnf
      refine ⟨_, _, St.upd_same _ _ _, ?_⟩
      conv => whnf
      refine ⟨_, _, St.upd_same _ _ _, ?_⟩
      conv => whnf
      rw [St.upd_upd]
      refine hK _ _ ?_
      clear hK hQ K
      change awp _ _ _ _ (F3.upd sb (.obj 128 (rowsOfI [a0, a1, a2, a3, a4, a5, a6, a7, a8, a9, a10, a11, a12] ++ scW (Wr (la + 1)) (Wr (ro + 1)) go pe (mxI lo line.size) (Wr (Wr (ro - go) + 1))))) _
      have hF5 := St.upd_same F3 sb (.obj 128 (rowsOfI [a0, a1, a2, a3, a4, a5, a6, a7, a8, a9, a10, a11, a12] ++ scW (Wr (la + 1)) (Wr (ro + 1)) go pe (mxI lo line.size) (Wr (Wr (ro - go) + 1))))
      have qF5 := St.ov nb.symm qF3 (p := .obj 128 (rowsOfI [a0, a1, a2, a3, a4, a5, a6, a7, a8, a9, a10, a11, a12] ++ scW (Wr (la + 1)) (Wr (ro + 1)) go pe (mxI lo line.size) (Wr (Wr (ro - go) + 1))))
      have hleF5 : ∀ X, St.le (S.upd sb X) ((F3.upd sb (.obj 128 (rowsOfI [a0, a1, a2, a3, a4, a5, a6, a7, a8, a9, a10, a11, a12] ++ scW (Wr (la + 1)) (Wr (ro + 1)) go pe (mxI lo line.size) (Wr (Wr (ro - go) + 1))))).upd sb X) := fun X => by rw [St.upd_upd]; exact hleF3 X
      generalize F3.upd sb (.obj 128 (rowsOfI [a0, a1, a2, a3, a4, a5, a6, a7, a8, a9, a10, a11, a12] ++ scW (Wr (la + 1)) (Wr (ro + 1)) go pe (mxI lo line.size) (Wr (Wr (ro - go) + 1)))) = F5 at *
      rw [rows_there] at hF5
      have h6 : ¬ pv.kind = 6 := by rintro h6; rw [h6] at hb4; revert hb4; decide
      -- F5 F, hF5 h, hleF5 hle, Wr (ro + 1) rows, go gone, qF5 q
      refine ⟨[], (.free 0 (.free 1 (.free 2 (.free 3 (.free 4 (.free 5 (.free 6 (.free 7 (.free 8 (.free 9 (.one 10 (.free 11 (.free 12 (.free 13 (.one 14 .done .none)))) .none))))))))))), _, by decide +kernel, ?_, fun _ _ h => ⟨_, .inl rfl, h⟩⟩
      conv => whnf
      refine ⟨_, _, hF5, ?_⟩
      conv => whnf
      refine ⟨_, _, hF5, ?_⟩
      conv => whnf
      refine ⟨_, _, hF5, ?_⟩
      conv => whnf
      refine ⟨_, _, ⟨rfl, rfl⟩, ?_, AV.leS_refl _ _ _⟩
      refine Eq.mp (congrArg (fun X => St.le (S.upd sb (.obj 128 X)) (F5.upd sb (.obj 128 (rowsOfI [a0, a1, a2, a3, a4, a5, a6, a7, a8, a9, a10, a11, a12] ++ scW (Wr (la + 1)) (Wr (ro + 1)) (go) (mxI pe (Wr (Wr (ro + 1) - go))) (mxI lo line.size) (Wr (Wr (ro + 1) - go)))))) ?_) (hleF5 _)
      unfold scC wgStep
      rw [show isRowK pv.kind = true from by unfold isRowK; simp only [hb3, hb4]; rfl]
      dsimp only
      rw [if_neg h6, hks]
      rfl
    | false =>
      conv => whnf
      cases hb11 : (pv.kind == 11) with
      | true =>
        conv => whnf
        refine ⟨_, _, hF3, ?_⟩
        conv => whnf
        refine ⟨_, _, hF3, ?_⟩
        conv => whnf
        refine ⟨_, _, St.upd_same _ _ _, ?_⟩
        conv => whnf
        refine ⟨_, _, St.upd_same _ _ _, ?_⟩
        conv => whnf
        rw [St.upd_upd]
        refine hK _ _ ?_
        clear hK hQ K
        change awp _ _ _ _ (F3.upd sb (.obj 128 (rowsOfI [a0, a1, a2, a3, a4, a5, a6, a7, a8, a9, a10, a11, a12] ++ scW (Wr (la + 1)) (Wr (ro + 1)) go pe (mxI lo line.size) (Wr (Wr (ro - go) + 1))))) _
        have hF5 := St.upd_same F3 sb (.obj 128 (rowsOfI [a0, a1, a2, a3, a4, a5, a6, a7, a8, a9, a10, a11, a12] ++ scW (Wr (la + 1)) (Wr (ro + 1)) go pe (mxI lo line.size) (Wr (Wr (ro - go) + 1))))
        have qF5 := St.ov nb.symm qF3 (p := .obj 128 (rowsOfI [a0, a1, a2, a3, a4, a5, a6, a7, a8, a9, a10, a11, a12] ++ scW (Wr (la + 1)) (Wr (ro + 1)) go pe (mxI lo line.size) (Wr (Wr (ro - go) + 1))))
        have hleF5 : ∀ X, St.le (S.upd sb X) ((F3.upd sb (.obj 128 (rowsOfI [a0, a1, a2, a3, a4, a5, a6, a7, a8, a9, a10, a11, a12] ++ scW (Wr (la + 1)) (Wr (ro + 1)) go pe (mxI lo line.size) (Wr (Wr (ro - go) + 1))))).upd sb X) := fun X => by rw [St.upd_upd]; exact hleF3 X
        generalize F3.upd sb (.obj 128 (rowsOfI [a0, a1, a2, a3, a4, a5, a6, a7, a8, a9, a10, a11, a12] ++ scW (Wr (la + 1)) (Wr (ro + 1)) go pe (mxI lo line.size) (Wr (Wr (ro - go) + 1)))) = F5 at *
        rw [rows_there] at hF5
        have h6 : ¬ pv.kind = 6 := by rintro h6; rw [h6] at hb11; revert hb11; decide
        -- F5 F, hF5 h, hleF5 hle, Wr (ro + 1) rows, go gone, qF5 q
        refine ⟨[], (.free 0 (.free 1 (.free 2 (.free 3 (.free 4 (.free 5 (.free 6 (.free 7 (.free 8 (.free 9 (.one 10 (.free 11 (.free 12 (.free 13 (.one 14 .done .none)))) .none))))))))))), _, by decide +kernel, ?_, fun _ _ h => ⟨_, .inl rfl, h⟩⟩
        conv => whnf
        refine ⟨_, _, hF5, ?_⟩
        conv => whnf
        refine ⟨_, _, hF5, ?_⟩
        conv => whnf
        refine ⟨_, _, hF5, ?_⟩
        conv => whnf
        refine ⟨_, _, ⟨rfl, rfl⟩, ?_, AV.leS_refl _ _ _⟩
        refine Eq.mp (congrArg (fun X => St.le (S.upd sb (.obj 128 X)) (F5.upd sb (.obj 128 (rowsOfI [a0, a1, a2, a3, a4, a5, a6, a7, a8, a9, a10, a11, a12] ++ scW (Wr (la + 1)) (Wr (ro + 1)) (go) (mxI pe (Wr (Wr (ro + 1) - go))) (mxI lo line.size) (Wr (Wr (ro + 1) - go)))))) ?_) (hleF5 _)
        unfold scC wgStep
        rw [show isRowK pv.kind = true from by unfold isRowK; simp only [hb3, hb4, hb11]; rfl]
        dsimp only
        rw [if_neg h6, hks]
        rfl
      | false =>
        conv => whnf
        have hrk : isRowK pv.kind = false := by unfold isRowK; simp only [hb3, hb4, hb11]; rfl
        cases hb6 : (pv.kind == 6) with
        | true =>
          have h6 : pv.kind = 6 := by simpa using hb6
          conv => whnf
          refine ⟨[], (.free 0 (.free 1 (.free 2 (.free 3 (.free 4 (.free 5 (.free 6 (.free 7 (.free 8 (.free 9 (.free 10 (.free 11 (.one 12 .done .none))))))))))))), _, by decide +kernel, ?_, fun _ _ h => ⟨_, .inl rfl, h⟩⟩
          conv => whnf
          refine ⟨_, _, hF3, ?_⟩
          conv => whnf
          refine ⟨_, _, qF3, ?_⟩
          conv => whnf
          refine ⟨_, _, hF3, ?_⟩
          conv => whnf
          refine ⟨[], (.free 0 (.free 1 (.free 2 (.free 3 (.free 4 (.free 5 (.free 6 (.free 7 (.free 8 (.free 9 (.one 10 .done .none))))))))))), _, by decide +kernel, ?_, fun _ _ h => ⟨_, .inl rfl, h⟩⟩
          conv => whnf
          refine ⟨_, _, St.upd_same _ _ _, ?_⟩
          conv => whnf
          refine ⟨_, _, St.ov nb.symm qF3, ?_⟩
          conv => whnf
          refine ⟨_, _, St.upd_same _ _ _, ?_⟩
          conv => whnf
          rw [St.upd_upd]
          refine hK _ _ ?_
          clear hK hQ K
          rw [rowsS_len]
          change awp _ _ _ _ (F3.upd sb (.obj 128 (rowsOfI [a0, a1, a2, a3, a4, a5, a6, a7, a8, a9, a10, a11, a12] ++ scW (Wr (la + 1)) ro (Wr (go + pv.ids.length)) pe (mxI lo line.size) (Wr (Wr (ro - go) - pv.ids.length))))) _
          have hF5 := St.upd_same F3 sb (.obj 128 (rowsOfI [a0, a1, a2, a3, a4, a5, a6, a7, a8, a9, a10, a11, a12] ++ scW (Wr (la + 1)) ro (Wr (go + pv.ids.length)) pe (mxI lo line.size) (Wr (Wr (ro - go) - pv.ids.length))))
          have qF5 := St.ov nb.symm qF3 (p := .obj 128 (rowsOfI [a0, a1, a2, a3, a4, a5, a6, a7, a8, a9, a10, a11, a12] ++ scW (Wr (la + 1)) ro (Wr (go + pv.ids.length)) pe (mxI lo line.size) (Wr (Wr (ro - go) - pv.ids.length))))
          have hleF5 : ∀ X, St.le (S.upd sb X) ((F3.upd sb (.obj 128 (rowsOfI [a0, a1, a2, a3, a4, a5, a6, a7, a8, a9, a10, a11, a12] ++ scW (Wr (la + 1)) ro (Wr (go + pv.ids.length)) pe (mxI lo line.size) (Wr (Wr (ro - go) - pv.ids.length))))).upd sb X) := fun X => by rw [St.upd_upd]; exact hleF3 X
          generalize F3.upd sb (.obj 128 (rowsOfI [a0, a1, a2, a3, a4, a5, a6, a7, a8, a9, a10, a11, a12] ++ scW (Wr (la + 1)) ro (Wr (go + pv.ids.length)) pe (mxI lo line.size) (Wr (Wr (ro - go) - pv.ids.length)))) = F5 at *
          rw [gone_there] at hF5
          -- F5 F, hF5 h, hleF5 hle, ro rows, Wr (go + pv.ids.length) gone, qF5 q
          refine ⟨[], (.free 0 (.free 1 (.free 2 (.free 3 (.free 4 (.free 5 (.free 6 (.free 7 (.free 8 (.free 9 (.one 10 (.free 11 (.free 12 (.free 13 (.one 14 .done .none)))) .none))))))))))), _, by decide +kernel, ?_, fun _ _ h => ⟨_, .inl rfl, h⟩⟩
          conv => whnf
          refine ⟨_, _, hF5, ?_⟩
          conv => whnf
          refine ⟨_, _, hF5, ?_⟩
          conv => whnf
          refine ⟨_, _, hF5, ?_⟩
          conv => whnf
          refine ⟨_, _, ⟨rfl, rfl⟩, ?_, AV.leS_refl _ _ _⟩
          refine Eq.mp (congrArg (fun X => St.le (S.upd sb (.obj 128 X)) (F5.upd sb (.obj 128 (rowsOfI [a0, a1, a2, a3, a4, a5, a6, a7, a8, a9, a10, a11, a12] ++ scW (Wr (la + 1)) (ro) (Wr (go + pv.ids.length)) (mxI pe (Wr (ro - Wr (go + pv.ids.length)))) (mxI lo line.size) (Wr (ro - Wr (go + pv.ids.length))))))) ?_) (hleF5 _)
          unfold scC wgStep
          rw [hrk]
          dsimp only
          rw [if_pos h6, hks]
          rfl
        | false =>
          have h6 : ¬ pv.kind = 6 := by simpa using hb6
          conv => whnf
          refine hK _ _ ?_
          clear hK hQ K
          -- F3 F, hF3 h, hleF3 hle, ro rows, go gone, qF3 q
          refine ⟨[], (.free 0 (.free 1 (.free 2 (.free 3 (.free 4 (.free 5 (.free 6 (.free 7 (.free 8 (.free 9 (.one 10 (.free 11 (.free 12 (.free 13 (.one 14 .done .none)))) .none))))))))))), _, by decide +kernel, ?_, fun _ _ h => ⟨_, .inl rfl, h⟩⟩
          conv => whnf
          refine ⟨_, _, hF3, ?_⟩
          conv => whnf
          refine ⟨_, _, hF3, ?_⟩
          conv => whnf
          refine ⟨_, _, hF3, ?_⟩
          conv => whnf
          refine ⟨_, _, ⟨rfl, rfl⟩, ?_, AV.leS_refl _ _ _⟩
          refine Eq.mp (congrArg (fun X => St.le (S.upd sb (.obj 128 X)) (F3.upd sb (.obj 128 (rowsOfI [a0, a1, a2, a3, a4, a5, a6, a7, a8, a9, a10, a11, a12] ++ scW (Wr (la + 1)) (ro) (go) (mxI pe (Wr (ro - go))) (mxI lo line.size) (Wr (ro - go)))))) ?_) (hleF3 _)
          unfold scC wgStep
          rw [hrk]
          dsimp only
          rw [if_neg h6, hks]
          rfl
end Go.Proofs.YtcpdgnkhkdddhaaGreatDoor.Aw

set_option maxRecDepth 100000
set_option linter.unusedVariables false
set_option linter.unusedSimpArgs false
namespace Go.Proofs.YtcpdgnkhkdddhaaGreatDoor.Aw
open Go Go.RowKit
variable {G : Nat → Option (List AV)}

def weighAV (r : WgV × Int × Int) : AV := if r.2.2 = 0 then .tu [.ag (wgC r.1), .nili] else .tu [.ag (wgC r.1), .ifc 72 (.imm [.int .i64 2, .int .i64 r.2.1, .int .i64 r.2.2])]
structure ScS (S F : St) (b2 b4 : Nat) (v : WgV) : Prop where
  w2 : F b2 = some (.obj 63 (wgC (wgZero 0)))
  w4 : F b4 = some (.obj 128 (scC v))
  ls : St.le S F
  n24 : b2 ≠ b4
  z2 : S b2 = none
  z4 : S b4 = none
theorem ScS.more {S F : St} {b2 b4 : Nat} {v : WgV} (h : ScS S F b2 b4 v) {b : Nat} (hb : F b = none) (o : Own) : ScS S (F.upd b o) b2 b4 v :=
  ⟨St.up hb h.w2, St.up hb h.w4, St.le_upd' h.ls hb o, h.n24, h.z2, h.z4⟩
theorem ScS.put {S F : St} {b2 b4 : Nat} {v : WgV} (h : ScS S F b2 b4 v) (v' : WgV) : ScS S (F.upd b4 (.obj 128 (scC v'))) b2 b4 v' :=
  ⟨St.ov h.n24 h.w2, St.upd_same _ _ _, St.le_upd h.ls h.z4 _, h.n24, h.z2, h.z4⟩
theorem wgStep_bytes (v : WgV) (k n len : Int) : (wgStep v k n len).bytes = v.bytes := rfl
theorem wgStep_kinds (v : WgV) (k n len : Int) : (wgStep v k n len).kinds = upK v.kinds k.toNat := rfl
theorem Weigh_ok {m : Int} (hM : G 1 = some [.int .i64 m]) (hG : GS G) (hA : GAs G) (s : ByteArray) (hs : s.size ≤ 100000) (S : St) :
    Triple P (C G) 17 [.str s] S fun o S' => o = .ret (weighAV (wgGo (linesOf s) 0 (wgZero s.size))) ∧ S' = S := by
  have hl := fun S => lines_ok (G := G) hM s (by omega) S
  have hsz := linesOf_size s
  have hll := linesOf_len s
  generalize linesOf s = ls at *
  have hsz2 : ∀ x ∈ ls, x.size ≤ 8999999 := fun x hx => Nat.le_trans (hsz x hx) (by omega)
  obtain ⟨W, hW⟩ : ∃ W, wgGo ls 0 (wgZero s.size) = W := ⟨_, rfl⟩
  rw [hW]
  refine triple_of_awp (hT G) hm Tryz.func17 rfl (by decide +kernel) rfl (by decide +kernel) (by show 1 ≤ _; decide +kernel) rfl ?_
  refine awp_seq2 fun K hK hQ => ?_
  conv => whnf
  intro b2 hb2
  conv => whnf
  refine hK _ _ ?_
  clear hK hQ K
  refine awp_seq2 fun K hK hQ => ?_
  conv => whnf
  intro b4 hb4
  conv => whnf
  refine hK _ _ ?_
  clear hK hQ K
  have hE : ScS S ((S.upd b2 (.obj 63 (wgC (wgZero 0)))).upd b4 (.obj 128 (scC (wgZero s.size)))) b2 b4 (wgZero s.size) :=
    ⟨St.up hb4 (St.upd_same _ _ _), St.upd_same _ _ _, St.le_upd' (St.le_upd' (St.le_refl S) hb2 _) hb4 _, (fun e => by rw [← e, St.upd_same] at hb4; cases hb4), hb2, St.no hb4⟩
  change awp _ _ _ _ ((S.upd b2 (.obj 63 (wgC (wgZero 0)))).upd b4 (.obj 128 (scC (wgZero s.size)))) _
  generalize (S.upd b2 (.obj 63 (wgC (wgZero 0)))).upd b4 (.obj 128 (scC (wgZero s.size))) = F at *
  clear hb2 hb4
  refine awp_seq2 fun K hK hQ => ?_
  conv => whnf
  refine (hl _).mono ?_
  rintro o T ⟨rfl, rfl⟩
  conv => whnf
  intro _
  conv => whnf
  refine ⟨⟨Nat × WgV, fun x => [(0, .str s), (2, .ref b2 0), (4, .ref b4 0), (12, .sl .any 1 (rowsS ls)), (13, .int .i64 (ls.length : Int)), (14, .int .i64 (x.1 : Int))],
    fun x S1 => ScS S S1 b2 b4 x.2 ∧ x.1 ≤ ls.length ∧ x.2.kinds.length = 13 ∧ x.2.bytes = s.size ∧ wgGo (ls.drop x.1) x.1 x.2 = W, fun x => ls.length - x.1⟩,
    ⟨(0, wgZero s.size), ⟨rfl, rfl, rfl, ⟨rfl, rfl⟩, congrArg (AV.int .i64) (by rw [rowsS_len]), rfl, trivial⟩, _, St.leW_refl _, hE, by dsimp only; omega, rfl, rfl, hW⟩, ?_⟩
  clear hE
  rintro ⟨i, v⟩ S1 ⟨g1, g2, g3, g5, g4⟩
  dsimp only at g1 g2 g3 g4 g5
  conv => whnf
  refine split_of (fun hlt => ?_) (fun hlt => ?_)
  · have hlt : i < ls.length := by have := of_decide_eq_true hlt; omega
    have hd : ls.drop i = ls[i] :: ls.drop (i + 1) := List.drop_eq_getElem_cons hlt
    rw [hd] at g4
    unfold wgGo at g4
    have ga : (rowsS ls)[(i : Int).toNat]? = some [.str ls[i]] := by simp [rowsS, hlt]
    have hx := hsz2 ls[i] (List.getElem_mem hlt)
    have w1 : IntKind.i64.wrap ((i : Int) + 1) = ((i + 1 : Nat) : Int) := wrap_nat (by omega)
    generalize ls[i] = x at *
    have hp := fun S => Parse_line_ok (G := G) hG hA x hx S
    have hkk := parseP_kind x
    obtain ⟨pp, hpp⟩ : ∃ p, parseP x = p := ⟨_, rfl⟩
    rw [hpp] at hp hkk g4
    obtain ⟨pv, pe⟩ := pp
    dsimp only at hp hkk g4
    conv => whnf
    refine ⟨_, ⟨by omega, ga⟩, ?_⟩
    conv => whnf
    refine (hp _).mono ?_
    rintro o T2 ⟨rfl, rfl⟩
    conv => whnf
    intro b7 hb7
    conv => whnf
    refine ⟨_, _, St.upd_same _ _ _, ?_⟩
    conv => whnf
    rw [St.upd_upd]
    have hE := g1.more hb7 (.obj 54 (stepM pv))
    have q7 := St.upd_same T2 b7 (.obj 54 (stepM pv))
    have hst := fun F h => scale_step_ok (G := G) v g3 pv hkk x F b4 h
    unfold stepM at hE q7
    generalize T2.upd b7 (.obj 54 [.int .i64 pv.kind, .str pv.num, .sl .any 3 (rowsO pv.ops), .sl .any 2 (rowsP pv.pieces), .str pv.bound, .sl .any 1 (rowsI pv.lits), .sl .any 1 (rowsS pv.ids), .int .i64 pv.n6, .str pv.s7, .str pv.s8]) = F1 at *
    clear g1 hb7
    by_cases he : pe = 0
    · subst he
      rw [if_pos rfl] at g4
      conv => whnf
      refine ⟨_, _, q7, ?_⟩
      conv => whnf
      refine (hst _ hE.w4).mono ?_
      rintro o T3 ⟨rfl, rfl⟩
      conv => whnf
      exact ⟨(i + 1, wgStep v pv.kind pv.ids.length x.size), ⟨rfl, rfl, rfl, ⟨rfl, rfl⟩, rfl, congrArg _ w1, trivial⟩, ⟨_, St.leW_refl _, hE.put _, hlt, by rw [wgStep_kinds, upK_len]; exact g3, g5, g4⟩, by show ls.length - (i + 1) < ls.length - i; omega⟩
    · rw [if_neg he] at g4
      rw [show (pe != 0) = true from by simpa using he]
      conv => whnf
      intro b31 hb31
      conv => whnf
      refine ⟨_, _, St.up hb31 hE.w2, ?_⟩
      rw [when_iff]
      refine ⟨rfl, ?_⟩
      rw [forceL_eq, setRange_all (by rfl)]
      conv => whnf
      refine hQ _ _ _ (by simp) ?_
      conv => whnf
      refine ⟨_, _, St.upd_same _ _ _, ?_⟩
      conv => whnf
      have n31 : b31 ≠ b2 := fun e => by rw [e, hE.w2] at hb31; cases hb31
      rw [← g4, show weighAV (wgZero 0, Wr ((i : Int) + 1), pe) = .tu [.ag (wgC (wgZero 0)), .ifc 72 (.imm [.int .i64 2, .int .i64 (Wr ((i : Int) + 1)), .int .i64 pe])] from if_neg he]
      refine ⟨_, _, ⟨rfl, rfl⟩, St.le_upd (St.le_upd' hE.ls hb31 _) hE.z2 _, ?_⟩
      exact ⟨AV.leS_refl _ _ _, ⟨rfl, St.le_none hE.ls hb31, _, _, St.ov n31 (St.upd_same _ _ _), rfl⟩, rfl⟩
  · have hlt : ¬ i < ls.length := by have := of_decide_eq_false hlt; omega
    rw [List.drop_of_length_le (by omega)] at g4
    unfold wgGo at g4
    subst g4
    conv => whnf
    refine hK _ _ ?_
    clear hK hQ K
    obtain ⟨la, bb, ro, go, pe, lo, ks⟩ := v
    dsimp only at g3 g5
    subst g5
    obtain ⟨a0, a1, a2, a3, a4, a5, a6, a7, a8, a9, a10, a11, a12, rfl⟩ := len13 g3
    have h4 := g1.w4
    refine awp_seq2 fun K hK hQ => ?_
    conv => whnf
    refine ⟨_, _, h4, ?_⟩
    conv => whnf
    refine ⟨_, _, h4, ?_⟩
    conv => whnf
    refine ⟨_, _, St.upd_same _ _ _, ?_⟩
    conv => whnf
    rw [St.upd_upd]
    refine hK _ _ ?_
    clear hK hQ K
    conv => whnf
    refine ⟨_, _, St.upd_same _ _ _, ?_⟩
    conv => whnf
    refine ⟨_, _, St.ov g1.n24 g1.w2, ?_⟩
    rw [when_iff]
    refine ⟨rfl, ?_⟩
    rw [forceL_eq, setRange_all (by rfl)]
    conv => whnf
    refine ⟨_, _, St.upd_same _ _ _, ?_⟩
    conv => whnf
    rw [show weighAV (⟨la, s.size, ro, go, pe, lo, [a0, a1, a2, a3, a4, a5, a6, a7, a8, a9, a10, a11, a12]⟩, 0, 0) = .tu [.ag (wgC ⟨la, s.size, ro, go, pe, lo, [a0, a1, a2, a3, a4, a5, a6, a7, a8, a9, a10, a11, a12]⟩), .nili] from if_pos rfl]
    exact ⟨_, _, ⟨rfl, rfl⟩, St.le_upd (St.le_upd g1.ls g1.z4 _) g1.z2 _, AV.leS_refl _ _ _⟩
end Go.Proofs.YtcpdgnkhkdddhaaGreatDoor.Aw

set_option maxRecDepth 100000
set_option linter.unusedVariables false
set_option linter.unusedSimpArgs false
namespace Go.Proofs.YtcpdgnkhkdddhaaGreatDoor.Aw
open Go Go.RowKit
variable {G : Nat → Option (List AV)}

theorem wgGo_kinds : ∀ (l : List ByteArray) (i : Nat) (v : WgV), v.kinds.length = 13 → (wgGo l i v).1.kinds.length = 13
  | [], _, _, h => h
  | x :: l, i, v, h => by
    unfold wgGo
    split
    · exact wgGo_kinds l _ _ (by rw [wgStep_kinds, upK_len]; exact h)
    · rfl
theorem lawWeighs_ok {m : Int} (hM : G 1 = some [.int .i64 m]) (hG : GS G) (hA : GAs G) (s : ByteArray) (S : St) :
    Triple P (C G) 4 [.str s] S fun o S' => o = .ret (.bool true) ∧ S' = S := by
  refine triple_of_awp (hT G) hm Tryz.func4 rfl (by decide +kernel) rfl (by decide +kernel) (by show 1 ≤ _; decide +kernel) rfl ?_
  refine awp_seq2 fun K hK hQ => ?_
  conv => whnf
  refine hK _ _ ?_
  clear hK hQ K
  refine awp_seq2 fun K hK hQ => ?_
  conv => whnf
  refine split_of (fun hbig => ?_) (fun hbig => ?_)
  · conv => whnf
    refine hQ _ _ _ (by simp) ?_
    conv => whnf
    exact ⟨_, _, ⟨rfl, rfl⟩, St.le_refl _, AV.leS_refl _ _ _⟩
  have hs : s.size ≤ 100000 := by have := of_decide_eq_false hbig; omega
  have hr := fun S => Weigh_ref_ok (G := G) s hs S
  have hw := fun S => Weigh_ok (G := G) hM hG hA s hs S
  have hk13 := wgGo_kinds (linesOf s) 0 (wgZero s.size) rfl
  obtain ⟨⟨⟨la, bb, ro, go, pe, lo, ks⟩, ln, er⟩, hW⟩ : ∃ W, wgGo (linesOf s) 0 (wgZero s.size) = W := ⟨_, rfl⟩
  rw [hW] at hr hw hk13
  dsimp only at hr hk13
  obtain ⟨a0, a1, a2, a3, a4, a5, a6, a7, a8, a9, a10, a11, a12, rfl⟩ := len13 hk13
  clear hW hk13
  conv => whnf
  refine hK _ _ ?_
  clear hK hQ K
  refine awp_seq2 fun K hK hQ => ?_
  conv => whnf
  refine (hr _).mono ?_
  rintro o T ⟨rfl, rfl⟩
  conv => whnf
  intro b3 hb3
  conv => whnf
  intro b4 hb4
  conv => whnf
  refine ⟨_, _, St.up hb4 (St.upd_same _ _ _), ?_⟩
  rw [when_iff]
  refine ⟨rfl, ?_⟩
  rw [forceL_eq, setRange_all (by rfl)]
  conv => whnf
  refine ⟨_, _, St.ov (fun e => by rw [e, St.upd_same] at hb4; cases hb4) (St.upd_same _ _ _), ?_⟩
  conv => whnf
  refine hK _ _ ?_
  clear hK hQ K
  have n34 : b3 ≠ b4 := fun e => by rw [← e, St.upd_same] at hb4; cases hb4
  have hb4' := St.no hb4
  obtain ⟨X, hX⟩ : ∃ X, ((((T.upd b3 (.obj 63 (wgC (wgZero 0)))).upd b4 (.obj 65 [.int .i64 0, .int .i64 0])).upd b3 (.obj 63 (wgC ⟨la, bb, ro, go, pe, lo, [a0, a1, a2, a3, a4, a5, a6, a7, a8, a9, a10, a11, a12]⟩))).upd b4 (.obj 65 [.int .i64 ln, .int .i64 er])) = X := ⟨_, rfl⟩
  have q3 : X b3 = some (.obj 63 (wgC ⟨la, bb, ro, go, pe, lo, [a0, a1, a2, a3, a4, a5, a6, a7, a8, a9, a10, a11, a12]⟩)) := by rw [← hX]; exact St.ov n34 (St.upd_same _ _ _)
  have q4 : X b4 = some (.obj 65 [.int .i64 ln, .int .i64 er]) := by rw [← hX]; exact St.upd_same _ _ _
  have hle : St.le T X := by rw [← hX]; exact St.le_upd (St.le_upd (St.le_upd' (St.le_upd' (St.le_refl T) hb3 _) hb4 _) hb3 _) hb4' _
  change awp _ _ _ _ ((((T.upd b3 (.obj 63 (wgC (wgZero 0)))).upd b4 (.obj 65 [.int .i64 0, .int .i64 0])).upd b3 (.obj 63 (wgC ⟨la, bb, ro, go, pe, lo, [a0, a1, a2, a3, a4, a5, a6, a7, a8, a9, a10, a11, a12]⟩))).upd b4 (.obj 65 [.int .i64 ln, .int .i64 er])) _
  rw [hX]
  clear hX hb3 hb4 hb4' hr
  unfold weighAV at hw
  dsimp only at hw
  by_cases he : er = 0
  · subst he
    rw [if_pos rfl] at hw
    refine awp_seq2 fun K hK hQ => ?_
    conv => whnf
    refine (hw _).mono ?_
    rintro o T2 ⟨rfl, rfl⟩
    conv => whnf
    intro b5 hb5
    conv => whnf
    refine ⟨_, _, St.upd_same _ _ _, ?_⟩
    rw [when_iff]
    refine ⟨rfl, ?_⟩
    rw [forceL_eq, setRange_all (by rfl)]
    conv => whnf
    rw [St.upd_upd]
    refine hK _ _ ?_
    clear hK hQ K
    refine awp_seq2 fun K hK hQ => ?_
    refine ⟨[], (.free 0 (.free 1 (.free 2 (.free 3 (.free 4 (.free 5 (.free 6 (.free 7 (.free 8 (.free 9 (.free 10 .done))))))))))), _, by decide +kernel, ?_, fun _ _ h => ⟨_, .inl rfl, h⟩⟩
    conv => whnf
    refine ⟨_, _, St.upd_same _ _ _, ?_⟩
    conv => whnf
    refine ⟨_, _, St.up hb5 q3, ?_⟩
    conv => whnf
    simp only [beq_self_eq_true, Bool.and_self, Bool.not_true]
    conv => whnf
    refine ⟨_, _, St.up hb5 q4, ?_⟩
    conv => whnf
    refine hK _ _ ?_
    clear hK hQ K
    refine awp_seq2 fun K hK hQ => ?_
    conv => whnf
    refine hQ _ _ _ (by simp) ?_
    conv => whnf
    exact ⟨_, _, ⟨rfl, rfl⟩, St.le_upd' hle hb5 _, AV.leS_refl _ _ _⟩
  · rw [if_neg he] at hw
    have heb : (er == 0) = false := by simpa using he
    refine awp_seq2 fun K hK hQ => ?_
    conv => whnf
    refine (hw _).mono ?_
    rintro o T2 ⟨rfl, rfl⟩
    conv => whnf
    intro b5 hb5
    conv => whnf
    refine ⟨_, _, St.upd_same _ _ _, ?_⟩
    rw [when_iff]
    refine ⟨rfl, ?_⟩
    rw [forceL_eq, setRange_all (by rfl)]
    conv => whnf
    rw [St.upd_upd]
    refine hK _ _ ?_
    clear hK hQ K
    refine awp_seq2 fun K hK hQ => ?_
    refine ⟨[], (.free 0 (.free 1 (.free 2 (.free 3 (.free 4 (.free 5 (.free 6 (.free 7 (.free 8 (.free 9 (.free 10 .done))))))))))), _, by decide +kernel, ?_, fun _ _ h => ⟨_, .inl rfl, h⟩⟩
    conv => whnf
    refine ⟨_, _, St.upd_same _ _ _, ?_⟩
    conv => whnf
    refine ⟨_, _, St.up hb5 q3, ?_⟩
    conv => whnf
    simp only [beq_self_eq_true, Bool.and_self, Bool.not_true]
    conv => whnf
    refine ⟨_, _, St.up hb5 q4, ?_⟩
    conv => whnf
    rw [heb]
    conv => whnf
    refine hK _ _ ?_
    clear hK hQ K
    refine awp_seq2 fun K hK hQ => ?_
    conv => whnf
    refine hK _ _ ?_
    clear hK hQ K
    refine awp_seq2 fun K hK hQ => ?_
    conv => whnf
    refine hK _ _ ?_
    clear hK hQ K
    refine awp_seq2 fun K hK hQ => ?_
    refine ⟨[], (.free 0 (.free 1 (.free 2 (.free 3 (.free 4 (.free 5 (.free 6 (.free 7 (.free 8 (.free 9 (.free 10 (.free 11 (.free 12 (.free 13 (.free 14 (.free 15 (.free 16 (.free 17 (.free 18 (.free 19 (.free 20 (.free 21 (.free 22 (.free 23 (.free 24 (.free 25 (.free 26 (.free 27 (.free 28 (.free 29 (.free 30 .done))))))))))))))))))))))))))))))), _, by decide +kernel, ?_, fun _ _ h => ⟨_, .inl rfl, h⟩⟩
    conv => whnf
    refine ⟨_, _, St.up hb5 q4, ?_⟩
    conv => whnf
    rw [show (ln == ln) = true from beq_self_eq_true _]
    conv => whnf
    refine ⟨_, _, St.up hb5 q4, ?_⟩
    conv => whnf
    rw [show (er == er) = true from beq_self_eq_true _]
    conv => whnf
    refine hK _ _ ?_
    clear hK hQ K
    conv => whnf
    exact ⟨_, _, ⟨rfl, rfl⟩, St.le_upd' hle hb5 _, AV.leS_refl _ _ _⟩
end Go.Proofs.YtcpdgnkhkdddhaaGreatDoor.Aw

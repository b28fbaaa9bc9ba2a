/-
  Plain: what the four lines of known() parse to.
  hallmarklaw8.sameSteps at the same list twice.
  hallmarklaw8.known, walked.
  Plain: what Read's answer says of the lines; the errors' numbers.
  hallmarklaw8.ProofAlone, walked: it answers true.
  proof.Write, walked.
  Plain: what is written is read again, line by line.
-/
import Derived.Test.YtdlgedpmbeafdaaGreatDoorPab12
import Derived.Lib.SplitLaws
set_option maxRecDepth 100000
set_option linter.unusedVariables false
namespace Go.Proofs.YtdlgedpmbeafdaaGreatDoor.Aw
open Go Go.RowKit

def kn1 : ByteArray := (⟨#[112, 111, 108, 32, 51, 32, 52, 32, 43, 32, 50, 32, 100, 32, 120, 53, 32, 119, 32, 115, 32, 126, 120, 49, 32, 51, 32, 42, 32, 43]⟩ : ByteArray)
def kn2 : ByteArray := (⟨#[99, 111, 110, 99, 108, 117, 115, 105, 111, 110, 32, 66, 79, 85, 78, 68, 83, 32, 51, 32, 58, 32, 49, 55, 32, 51]⟩ : ByteArray)
def kn3 : ByteArray := (⟨#[112, 111, 108, 32, 51, 32, 52, 32, 45]⟩ : ByteArray)
def kn4 : ByteArray := (⟨#[114, 117, 112, 32, 49, 32, 120, 49, 32, 62, 61, 32, 49]⟩ : ByteArray)
def kn5 : ByteArray := (⟨#[114, 117, 112, 32, 50, 32, 120, 49, 32, 45, 51, 32, 126, 120, 50, 32, 62, 61, 32, 48, 32, 59]⟩ : ByteArray)
theorem kn3_parse : (parseP kn3).2 = 80 := by decide +kernel
theorem kn4_parse : (parseP kn4).2 = 82 := by decide +kernel
theorem kn1_parse : (parseP kn1).2 = 0 ∧ (parseP kn1).1.ops.length = 9 ∧ (parseP kn1).1.ops[4]? = some (7, ByteArray.empty, 5) ∧ (parseP kn1).1.ops[6]? = some (2, ByteArray.empty, -1) := by decide +kernel
theorem kn2_parse : (parseP kn2).2 = 0 ∧ (parseP kn2).1.s7 = ⟨#[51]⟩ ∧ (parseP kn2).1.s8 = ⟨#[51]⟩ ∧ (parseP kn2).1.ids.length = 1 := by decide +kernel
def knStep : StepV := ⟨4, ByteArray.empty, [], [(⟨#[50]⟩, 1), (⟨#[45, 51]⟩, -2)], ⟨#[48]⟩, [], [], 0, ByteArray.empty, ByteArray.empty⟩
theorem kn5_print : printP knStep = (kn5, 0) := by decide +kernel
end Go.Proofs.YtdlgedpmbeafdaaGreatDoor.Aw

set_option maxRecDepth 100000
set_option linter.unusedVariables false
set_option linter.unusedSimpArgs false
namespace Go.Proofs.YtdlgedpmbeafdaaGreatDoor.Aw
open Go Go.RowKit
variable {G : Nat → Option (List AV)}

theorem sameSteps_self (a : List StepV) (hlen : a.length ≤ 1000000000) (hs : ∀ v ∈ a, LenStep v) (S : St) : Triple P (C G) 18 [.sl .any 10 (rowsT a), .sl .any 10 (rowsT a)] S fun o S' => o = .ret (.bool true) ∧ S' = S := by
  refine triple_of_awp (hT G) hm Tryz.func18 rfl (by decide +kernel) rfl (by decide +kernel) (by show 2 ≤ _; decide +kernel) rfl ?_
  conv => whnf
  intro _
  conv => whnf
  intro _
  conv => whnf
  refine split_of (fun hne => by simp at hne) (fun hne => ?_)
  conv => whnf
  refine ⟨⟨Nat, fun i => [(0, .sl .any 10 (rowsT a)), (1, .sl .any 10 (rowsT a)), (5, .int .i64 (i : Int))], fun i S' => S' = S ∧ i ≤ a.length, fun i => a.length - i⟩,
    ⟨0, ⟨⟨rfl, rfl⟩, ⟨rfl, rfl⟩, rfl, trivial⟩, _, St.leW_refl _, rfl, by omega⟩, ?_⟩
  rintro (i : Nat) S' ⟨rfl, hi⟩
  conv => whnf
  intro _
  conv => whnf
  refine split_of (fun hlt => ?_) (fun hlt => ?_)
  · have hlt : i < a.length := by have := of_decide_eq_true hlt; rw [rowsT_len] at this; omega
    have ga : (rowsT a)[(i : Int).toNat]? = some (stepR a[i]) := by simp [rowsT, hlt]
    have hl := hs _ (List.getElem_mem hlt)
    have hsm := fun S => Same_self (G := G) a[i] hl.ops hl.row hl.lits hl.ids S
    generalize a[i] = v at *
    conv => whnf
    refine ⟨[8], (.free 0 (.free 1 (.free 2 (.free 3 (.free 4 (.free 5 (.free 6 (.free 7 (.free 8 (.free 9 .done)))))))))), _, by decide +kernel, ?_, fun _ _ h => ⟨_, .inl rfl, h⟩⟩
    conv => whnf
    refine ⟨_, ⟨by omega, ga⟩, ?_⟩
    conv => whnf
    refine ⟨_, ⟨by omega, ga⟩, ?_⟩
    conv => whnf
    refine ⟨.bool true, (hsm _).mono ?_, ?_⟩
    · rintro o S' ⟨rfl, rfl⟩; exact ⟨rfl, rfl⟩
    have w1 : IntKind.i64.wrap ((i : Int) + 1) = ((i + 1 : Nat) : Int) := wrap_nat (by omega)
    conv => whnf
    exact ⟨i + 1, ⟨⟨rfl, rfl⟩, ⟨rfl, rfl⟩, congrArg _ w1, trivial⟩, ⟨_, St.leW_refl _, rfl, by omega⟩, by show a.length - (i + 1) < a.length - i; omega⟩
  · conv => whnf
    exact ⟨_, _, ⟨rfl, rfl⟩, St.le_refl _, AV.leS_refl _ _ _⟩
end Go.Proofs.YtdlgedpmbeafdaaGreatDoor.Aw

set_option maxRecDepth 100000
set_option linter.unusedVariables false
set_option linter.unusedSimpArgs false
namespace Go.Proofs.YtdlgedpmbeafdaaGreatDoor.Aw
open Go Go.RowKit
variable {G : Nat → Option (List AV)}

/-- A contract with a weaker argument, a struct. -/
theorem Triple.argAg {C : Cx} {f : FuncId} {xs ys : List AV} {S : St} {Q : Out → St → Prop} (h : Triple P C f [.ag ys] S Q) (hle : leL xs ys) : Triple P C f [.ag xs] S Q :=
  ⟨fun w vs hY hg hr => h.out w vs hY hg (by
    obtain ⟨v, hv, r⟩ := RelL.one hr
    simp only [Rel] at r
    obtain ⟨cs, rfl, r1, r2⟩ := r
    rw [hv]
    simp only [RelL, Rel]
    exact ⟨_, _, rfl, ⟨cs, rfl, leL_sound hle r1, r2⟩, rfl⟩)⟩
theorem okStep_kn : OkStep knStep := ⟨⟨by decide, by intro o ho; cases ho⟩, ⟨by decide, fun p hp => by
    simp only [knStep, List.mem_cons, List.not_mem_nil, or_false] at hp
    rcases hp with rfl | rfl <;> exact ⟨⟨by decide, by decide⟩, by decide⟩, by decide⟩, ⟨by decide, by intro z hz; cases hz⟩, ⟨by decide, by intro z hz; cases hz⟩, by decide, by decide, by decide⟩
theorem known_ok (hG : GS G) (hA : GAs G) (S : St) : Triple P (C G) 6 [] S fun o S' => o = .ret (.bool true) ∧ S' = S := by
  have p1 := fun S => Parse_line_ok (G := G) hG hA kn1 (by decide) S
  have p2 := fun S => Parse_line_ok (G := G) hG hA kn2 (by decide) S
  have p3 := fun S => Parse_line_ok (G := G) hG hA kn3 (by decide) S
  have p4 := fun S => Parse_line_ok (G := G) hG hA kn4 (by decide) S
  obtain ⟨c11, c12, c13, c14⟩ := kn1_parse
  obtain ⟨c21, c22, c23, c24⟩ := kn2_parse
  rw [c11] at p1
  rw [c21] at p2
  rw [kn3_parse] at p3
  rw [kn4_parse] at p4
  generalize (parseP kn1).1 = v1 at *
  generalize (parseP kn2).1 = v2 at *
  generalize (parseP kn3).1 = v3 at *
  generalize (parseP kn4).1 = v4 at *
  refine triple_of_awp (hT G) hm Tryz.func6 rfl (by decide +kernel) rfl (by decide +kernel) (by show 0 ≤ _; decide +kernel) rfl ?_
  refine awp_seq2 fun K hK hQ => ?_
  conv => whnf
  refine hK _ _ ?_
  clear hK hQ K
  refine awp_seq2 fun K hK hQ => ?_
  conv => whnf
  refine (p1 _).mono ?_
  rintro o T ⟨rfl, rfl⟩
  conv => whnf
  intro b1 hb1
  conv => whnf
  refine ⟨_, _, St.upd_same _ _ _, ?_⟩
  conv => whnf
  rw [St.upd_upd]
  refine hK _ _ ?_
  clear hK hQ K
  refine awp_seq2 fun K hK hQ => ?_
  conv => whnf
  refine (p2 _).mono ?_
  rintro o T ⟨rfl, rfl⟩
  conv => whnf
  intro b3 hb3
  conv => whnf
  refine ⟨_, _, St.upd_same _ _ _, ?_⟩
  conv => whnf
  rw [St.upd_upd]
  refine hK _ _ ?_
  clear hK hQ K
  refine awp_seq2 fun K hK hQ => ?_
  conv => whnf
  refine (p3 _).mono ?_
  rintro o T ⟨rfl, rfl⟩
  conv => whnf
  intro b5 hb5
  conv => whnf
  refine ⟨_, _, St.upd_same _ _ _, ?_⟩
  conv => whnf
  rw [St.upd_upd]
  refine hK _ _ ?_
  clear hK hQ K
  refine awp_seq2 fun K hK hQ => ?_
  conv => whnf
  refine (p4 _).mono ?_
  rintro o T ⟨rfl, rfl⟩
  conv => whnf
  intro b7 hb7
  conv => whnf
  refine ⟨_, _, St.upd_same _ _ _, ?_⟩
  conv => whnf
  rw [St.upd_upd]
  refine hK _ _ ?_
  clear hK hQ K
  refine awp_seq2 fun K hK hQ => ?_
  conv => whnf
  intro bb hbb
  conv => whnf
  have hpr := fun S => Print_ok (G := G) hG hA knStep okStep_kn (by decide +kernel) (parseP_len _ (by decide +kernel)) S
  rw [kn5_print] at hpr
  refine Triple.mono (Triple.argAg (hpr _) (by exact ⟨rfl, rfl, rfl, ⟨rfl, rfl⟩, rfl, rfl, rfl, rfl, rfl, rfl, trivial⟩)) ?_
  rintro o T ⟨rfl, rfl⟩
  conv => whnf
  refine hK _ _ ?_
  clear hK hQ K
  refine awp_seq2 fun K hK hQ => ?_
  refine awp_region ?_
  have i4 : (rowsO v1.ops)[(4 : Int).toNat]? = some [.int .i64 7, .str ByteArray.empty, .int .i64 5] := by simp [rowsO, c13]
  have i6 : (rowsO v1.ops)[(6 : Int).toNat]? = some [.int .i64 2, .str ByteArray.empty, .int .i64 (-1)] := by simp [rowsO, c14]
  refine aOps_cut 9 fun K' hK' => ?_
  conv => whnf
  refine (num_ok 0 _).mono ?_
  rintro o T2 ⟨rfl, rfl⟩
  conv => whnf
  refine ⟨_, _, St.up hbb (St.up hb7 (St.up hb5 (St.up hb3 (St.upd_same _ _ _)))), ?_⟩
  conv => whnf
  intro _
  conv => whnf
  rw [show (((rowsO v1.ops).length : Int) == 9) = true from by rw [rowsO_len, c12]; rfl]
  refine hK' _ _ ?_
  clear hK' K'
  refine aOps_cut 8 fun K' hK' => ?_
  conv => whnf
  refine ⟨_, _, St.up hbb (St.up hb7 (St.up hb5 (St.up hb3 (St.upd_same _ _ _)))), ?_⟩
  conv => whnf
  refine ⟨_, ⟨by decide, i4⟩, ?_⟩
  conv => whnf
  refine hK' _ _ ?_
  clear hK' K'
  refine aOps_cut 8 fun K' hK' => ?_
  conv => whnf
  refine ⟨_, _, St.up hbb (St.up hb7 (St.up hb5 (St.up hb3 (St.upd_same _ _ _)))), ?_⟩
  conv => whnf
  refine ⟨_, ⟨by decide, i6⟩, ?_⟩
  conv => whnf
  refine hK' _ _ ?_
  clear hK' K'
  refine aOps_cut 5 fun K' hK' => ?_
  conv => whnf
  refine (num_ok 0 _).mono ?_
  rintro o T2 ⟨rfl, rfl⟩
  conv => whnf
  refine hK' _ _ ?_
  clear hK' K'
  refine aOps_cut 5 fun K' hK' => ?_
  conv => whnf
  refine ⟨_, _, St.up hbb (St.up hb7 (St.up hb5 (St.upd_same _ _ _))), ?_⟩
  conv => whnf
  rw [show decide (v2.s7 = ⟨#[51]⟩) = true from decide_eq_true c22]
  refine hK' _ _ ?_
  clear hK' K'
  refine aOps_cut 5 fun K' hK' => ?_
  conv => whnf
  refine ⟨_, _, St.up hbb (St.up hb7 (St.up hb5 (St.upd_same _ _ _))), ?_⟩
  conv => whnf
  rw [show decide (v2.s8 = ⟨#[51]⟩) = true from decide_eq_true c23]
  refine hK' _ _ ?_
  clear hK' K'
  refine aOps_cut 6 fun K' hK' => ?_
  conv => whnf
  refine ⟨_, _, St.up hbb (St.up hb7 (St.up hb5 (St.upd_same _ _ _))), ?_⟩
  conv => whnf
  intro _
  conv => whnf
  rw [show (((rowsS v2.ids).length : Int) == 1) = true from by rw [rowsS_len, c24]; rfl]
  refine hK' _ _ ?_
  clear hK' K'
  refine aOps_cut 5 fun K' hK' => ?_
  conv => whnf
  refine (num_ok 80 _).mono ?_
  rintro o T2 ⟨rfl, rfl⟩
  conv => whnf
  refine hK' _ _ ?_
  clear hK' K'
  refine aOps_cut 5 fun K' hK' => ?_
  conv => whnf
  refine (num_ok 82 _).mono ?_
  rintro o T2 ⟨rfl, rfl⟩
  conv => whnf
  refine hK' _ _ ?_
  clear hK' K'
  refine aOps_cut 5 fun K' hK' => ?_
  conv => whnf
  refine (num_ok 0 _).mono ?_
  rintro o T2 ⟨rfl, rfl⟩
  conv => whnf
  refine hK' _ _ ?_
  clear hK' K'
  refine aOps_cut 4 fun K' hK' => ?_
  conv => whnf
  refine hK' _ _ ?_
  clear hK' K'
  refine aOps_cut 1 fun K' hK' => ?_
  conv => whnf
  refine hK' _ _ ?_
  clear hK' K'
  conv => whnf
  refine hK _ _ ?_
  clear hK hQ K
  conv => whnf
  exact ⟨_, _, ⟨rfl, rfl⟩, St.le_upd' (St.le_upd' (St.le_upd' (St.le_upd' (St.le_upd' (St.le_refl _) hb1 _) hb3 _) hb5 _) hb7 _) hbb _, AV.leS_refl _ _ _⟩
end Go.Proofs.YtdlgedpmbeafdaaGreatDoor.Aw

set_option maxRecDepth 100000
set_option linter.unusedVariables false
set_option linter.unusedSimpArgs false
namespace Go.Proofs.YtdlgedpmbeafdaaGreatDoor.Aw
open Go Go.RowKit

theorem readL_none : ∀ (ls : List ByteArray) (acc : List StepV), (readL ls acc).2 = none → (readL ls acc).1 = acc ++ ls.map (fun s => (parseP s).1) ∧ ∀ s ∈ ls, (parseP s).2 = 0
  | [], acc, _ => by simp [readL]
  | s :: l, acc, h => by
    unfold readL at h ⊢
    by_cases he : (parseP s).2 = 0
    · rw [if_pos he] at h ⊢
      obtain ⟨h1, h2⟩ := readL_none l _ h
      refine ⟨by rw [h1]; simp, fun x hx => ?_⟩
      rcases List.mem_cons.1 hx with rfl | hx
      · exact he
      · exact h2 x hx
    · rw [if_neg he] at h; cases h
theorem readL_some : ∀ (ls : List ByteArray) (acc : List StepV) (k : Nat) (c : Int), (readL ls acc).2 = some (k, c) → ∃ j, ∃ h : j < ls.length, k = acc.length + j + 1 ∧ (∀ i (hi : i < j), (parseP (ls[i]'(by omega))).2 = 0) ∧ (parseP ls[j]).2 = c ∧ c ≠ 0
  | [], acc, k, c, h => by simp [readL] at h
  | s :: l, acc, k, c, h => by
    unfold readL at h
    by_cases he : (parseP s).2 = 0
    · rw [if_pos he] at h
      obtain ⟨j, hj, h1, h2, h3, h4⟩ := readL_some l _ k c h
      refine ⟨j + 1, by simp; omega, by simp at h1; omega, fun i hi => ?_, h3, h4⟩
      cases i with
      | zero => exact he
      | succ i => exact h2 i (by omega)
    · rw [if_neg he] at h
      simp only [Option.some.injEq, Prod.mk.injEq] at h
      exact ⟨0, by simp, by simp [← h.1], fun i hi => by omega, h.2, by rw [← h.2]; exact he⟩
/-- An error's number. -/
def Code (e : Int) : Prop := e = 0 ∨ (80 ≤ e ∧ e ≤ 83)
theorem code0 : Code 0 := .inl rfl
theorem code80 : Code 80 := .inr ⟨by decide, by decide⟩
theorem code81 : Code 81 := .inr ⟨by decide, by decide⟩
theorem code82 : Code 82 := .inr ⟨by decide, by decide⟩
theorem exactG_code : ∀ (l xs : List ByteArray), Code (exactG l xs).2
  | l, [] => by cases l <;> exact code0
  | [], _ :: _ => code82
  | w :: l, x :: xs => by
    unfold exactG
    split
    · exact exactG_code l xs
    · exact code80
theorem numG_code (low : Int) (l : List ByteArray) : Code (numG low l).2.1 := by
  cases l with
  | nil => exact code82
  | cons w l =>
    simp only [numG]
    split
    · exact code0
    · exact code81
theorem idsG_code : ∀ (ws ids : List ByteArray), Code (idsG ws ids).2.1
  | [], ids => code0
  | w :: l, ids => by
    unfold idsG
    split
    · exact idsG_code l _
    · exact code81
theorem litsG_code : ∀ (ws : List ByteArray) (ls : List Int), Code (litsG ws ls).2.1
  | [], ls => code0
  | w :: l, ls => by
    unfold litsG
    split
    · exact code81
    · exact litsG_code l _
theorem pieceG_code : ∀ (ws : List ByteArray) (p : List (ByteArray × Int)), Code (pieceG ws p).2.1
  | [], p => code82
  | [w], p => by
    unfold pieceG
    split
    · exact code0
    · split
      · exact code82
      · exact code81
  | w :: x :: l, p => by
    unfold pieceG
    split
    · exact code0
    · split
      · split
        · exact code81
        · exact pieceG_code l _
      · exact code81
theorem rowG_code (ws : List ByteArray) (v : StepV) : Code (rowG ws v).1 := by
  unfold rowG boundG
  split
  · split
    · exact exactG_code _ _
    · exact numG_code _ _
  · exact pieceG_code _ _
theorem opG_code (ws : List ByteArray) : Code (opG ws).2.1 := by
  cases ws with
  | nil => exact code82
  | cons w l =>
    unfold opG
    dsimp only
    repeat' split
    all_goals first | exact code0 | exact code81 | exact code80
theorem polF_code : ∀ (f : Nat) (ws : List ByteArray) (ops : List OpV), Code (polF f ws ops).2.1
  | 0, ws, ops => code0
  | f + 1, ws, ops => by
    unfold polF
    split
    · split
      · exact polF_code f _ _
      · exact opG_code _
    · exact code0
theorem idG_code (ws : List ByteArray) (v : StepV) : Code (idG ws v).1 := by
  unfold idG
  split
  · split
    · exact code0
    · exact numG_code _ _
  · exact code0
theorem conclG_code (ws : List ByteArray) (v : StepV) : Code (conclG ws v).1 := by
  cases ws with
  | nil => exact code82
  | cons w l =>
    unfold conclG
    dsimp only
    split
    · exact code0
    split
    · exact code0
    split
    · exact idG_code _ _
    split
    · unfold allG
      split
      · split
        · exact code82
        · exact idG_code _ _
      · exact numG_code _ _
    split
    · unfold boundsG
      split
      · unfold upG
        split
        · exact numG_code _ _
        · exact idG_code _ _
      · exact numG_code _ _
    · exact code80
theorem tabG_code {w : ByteArray} {f : List ByteArray → StepV → RetG} (h : tabG w = some f) (l : List ByteArray) (v : StepV) : Code (f l v).1 := by
  unfold tabG at h
  by_cases k1 : w = kHead
  · rw [if_pos k1] at h; cases h; exact exactG_code _ _
  rw [if_neg k1] at h
  by_cases k1 : w = kF
  · rw [if_pos k1] at h; cases h; exact numG_code _ _
  rw [if_neg k1] at h
  by_cases k1 : w = kPol
  · rw [if_pos k1] at h; cases h; exact polF_code _ _ _
  rw [if_neg k1] at h
  by_cases k1 : w = kRup
  · rw [if_pos k1] at h; cases h
    unfold rupG
    split
    · exact idsG_code _ _
    · exact rowG_code _ _
  rw [if_neg k1] at h
  by_cases k1 : w = kSoli
  · rw [if_pos k1] at h; cases h; exact litsG_code _ _
  rw [if_neg k1] at h
  by_cases k1 : w = kSolx
  · rw [if_pos k1] at h; cases h; exact litsG_code _ _
  rw [if_neg k1] at h
  by_cases k1 : w = kE
  · rw [if_pos k1] at h; cases h
    unfold sameG
    split
    · exact rowG_code _ _
    · exact numG_code _ _
  rw [if_neg k1] at h
  by_cases k1 : w = kDel
  · rw [if_pos k1] at h; cases h
    unfold delG
    split
    · split
      · exact idsG_code _ _
      · exact numG_code _ _
    · exact exactG_code _ _
  rw [if_neg k1] at h
  by_cases k1 : w = kStar
  · rw [if_pos k1] at h; cases h; exact code0
  rw [if_neg k1] at h
  by_cases k1 : w = kOut
  · rw [if_pos k1] at h; cases h; exact exactG_code _ _
  rw [if_neg k1] at h
  by_cases k1 : w = kConc
  · rw [if_pos k1] at h; cases h; exact conclG_code _ _
  rw [if_neg k1] at h
  by_cases k1 : w = kEnd
  · rw [if_pos k1] at h; cases h; exact exactG_code _ _
  rw [if_neg k1] at h
  cases h
theorem parseW_code (ws : List ByteArray) : Code (parseW ws).2 := by
  cases ws with
  | nil => exact code0
  | cons w l =>
    unfold parseW
    dsimp only
    cases h : tabG w with
    | none => exact code80
    | some f =>
      unfold finG
      dsimp only
      split
      · split
        · exact code0
        · exact code80
      · exact tabG_code h l zeroV
theorem parseP_code (s : ByteArray) : Code (parseP s).2 := by
  unfold parseP
  split
  · exact code0
  · exact parseW_code _
end Go.Proofs.YtdlgedpmbeafdaaGreatDoor.Aw

set_option maxRecDepth 100000
set_option linter.unusedVariables false
set_option linter.unusedSimpArgs false
namespace Go.Proofs.YtdlgedpmbeafdaaGreatDoor.Aw
open Go Go.RowKit
variable {G : Nat → Option (List AV)}

theorem linesOf_len (s : ByteArray) : (linesOf s).length ≤ s.size + 1 := by
  have := splitS_le s sepNL (by decide)
  unfold linesOf
  dsimp only
  split
  · rw [List.length_take]; omega
  · omega
theorem lawAlone_ok {m : Int} (hM : G 1 = some [.int .i64 m]) (hG : GS G) (hA : GAs G) (s : ByteArray) (S : St) :
    Triple P (C G) 3 [.str s] S fun o S' => o = .ret (.bool true) ∧ S' = S := by
  have hkn := fun S => known_ok (G := G) hG hA S
  refine triple_of_awp (hT G) hm Tryz.func3 rfl (by decide +kernel) rfl (by decide +kernel) (by show 1 ≤ _; decide +kernel) rfl ?_
  refine awp_seq2 fun K hK hQ => ?_
  conv => whnf
  refine hK _ _ ?_
  clear hK hQ K
  refine awp_seq2 fun K hK hQ => ?_
  conv => whnf
  refine (hkn _).mono ?_
  rintro o T ⟨rfl, rfl⟩
  conv => whnf
  refine hK _ _ ?_
  clear hK hQ K
  refine awp_seq2 fun K hK hQ => ?_
  conv => whnf
  refine split_of (fun hbig => ?_) (fun hbig => ?_)
  · conv => whnf
    refine hQ _ _ _ (by simp) ?_
    conv => whnf
    exact ⟨_, _, ⟨rfl, rfl⟩, St.le_refl _, AV.leS_refl _ _ _⟩
  have hs : s.size < 400001 := by have := of_decide_eq_false hbig; omega
  conv => whnf
  refine hK _ _ ?_
  clear hK hQ K
  have hpl : ∀ x ∈ linesOf s, x.size ≤ 8999999 := fun x hx => Nat.le_trans (linesOf_size s x hx) (by omega)
  have hrd := fun S => Read_ok (G := G) hM hG hA s (by omega) hpl S
  have hln := fun S => lines_ok (G := G) hM s (by omega) S
  have hlen := linesOf_len s
  generalize linesOf s = ls at *
  have hno := readL_none ls []
  have hso := readL_some ls []
  rcases hr : readL ls [] with ⟨st, _ | ⟨k, c⟩⟩
  · rw [hr] at hrd hno
    clear hso hr
    obtain ⟨h1, h2⟩ := hno rfl
    dsimp only [readAV] at hrd h1
    rw [List.nil_append] at h1
    have hsl : st.length = ls.length := by rw [h1, List.length_map]
    refine awp_seq2 fun K hK hQ => ?_
    conv => whnf
    refine (hrd _).mono ?_
    rintro o T ⟨rfl, rfl⟩
    conv => whnf
    refine hK _ _ ?_
    clear hK hQ K
    refine awp_seq2 fun K hK hQ => ?_
    conv => whnf
    refine (told_nil _).mono ?_
    rintro o T ⟨rfl, rfl⟩
    conv => whnf
    intro b5 hb5
    conv => whnf
    refine ⟨_, _, St.upd_same _ _ _, ?_⟩
    conv => whnf
    rw [St.upd_upd]
    refine hK _ _ ?_
    clear hK hQ K
    refine awp_seq2 fun K hK hQ => ?_
    conv => whnf
    refine (hln _).mono ?_
    rintro o T2 ⟨rfl, rfl⟩
    conv => whnf
    refine hK _ _ ?_
    clear hK hQ K
    refine awp_seq2 fun K hK hQ => ?_
    refine awp_seq2 fun K1 hK1 hQ1 => ?_
    refine awp_region ?_
    refine aOps_cut 6 fun K' hK' => ?_
    conv => whnf
    refine ⟨_, _, St.upd_same _ _ _, ?_⟩
    conv => whnf
    refine hK' _ _ ?_
    clear hK' K'
    refine aOps_cut 6 fun K' hK' => ?_
    conv => whnf
    refine hK' _ _ ?_
    clear hK' K'
    refine aOps_cut 4 fun K' hK' => ?_
    conv => whnf
    refine ⟨_, _, St.upd_same _ _ _, ?_⟩
    conv => whnf
    refine hK' _ _ ?_
    clear hK' K'
    conv => whnf
    intro _
    conv => whnf
    intro _
    conv => whnf
    rw [show (((rowsT st).length : Int) != ((rowsS ls).length : Int)) = false from by simp [rowsT_len, rowsS_len, hsl]]
    conv => whnf
    refine hK1 _ _ ?_
    clear hK1 hQ1 K1
    conv => whnf
    refine hK _ _ ?_
    clear hK hQ K
    have hle0 : St.le T (T.upd b5 (.obj 29 [.int .i64 0, .int .i64 0])) := St.le_upd' (St.le_refl _) hb5 _
    refine awp_seq2 fun K hK hQ => ?_
    conv => whnf
    refine ⟨⟨Nat, fun i => [(0, .str s), (3, .sl .any 10 (rowsT st)), (5, .ref b5 0), (7, .sl .any 1 (rowsS ls)), (8, .int .i64 (i : Int))],
      fun i S' => S' b5 = some (.obj 29 [.int .i64 0, .int .i64 0]) ∧ St.le T S' ∧ i ≤ ls.length, fun i => ls.length - i⟩,
      ⟨0, ⟨rfl, ⟨rfl, rfl⟩, rfl, ⟨rfl, rfl⟩, rfl, trivial⟩, _, St.leW_refl _, St.upd_same _ _ _, hle0, by omega⟩, ?_⟩
    rintro (i : Nat) S1 ⟨q5, hle, hi⟩
    conv => whnf
    intro _
    conv => whnf
    refine split_of (fun hlt => ?_) (fun hlt => ?_)
    · have hlt : i < ls.length := by have := of_decide_eq_true hlt; rw [rowsS_len] at this; omega
      have hxs : ls[i].size ≤ 8999999 := hpl _ (List.getElem_mem hlt)
      have hp := fun S => Parse_line_ok (G := G) hG hA ls[i] hxs S
      have hc := h2 _ (List.getElem_mem hlt)
      have hw : LenStep (parseP ls[i]).1 := parseP_len _ hxs
      have hga : (rowsT st)[(i : Int).toNat]? = some (stepR (parseP ls[i]).1) := by simp [rowsT, h1, hlt]
      generalize hgi : ls[i] = x at *
      rw [hc] at hp
      generalize (parseP x).1 = v at *
      have hsm := fun S => Same_self (G := G) v hw.ops hw.row hw.lits hw.ids S
      conv => whnf
      refine ⟨[.str x], ⟨by omega, by rw [← hgi]; simp [rowsS, hlt]⟩, ?_⟩
      conv => whnf
      refine (hp _).mono ?_
      rintro o T ⟨rfl, rfl⟩
      conv => whnf
      intro b9 hb9
      conv => whnf
      refine ⟨_, _, St.upd_same _ _ _, ?_⟩
      conv => whnf
      rw [St.upd_upd]
      refine (num_ok 0 _).mono ?_
      rintro o T2 ⟨rfl, rfl⟩
      conv => whnf
      refine ⟨[9], (.free 0 (.free 1 (.free 2 (.free 3 (.free 4 (.free 5 (.free 6 (.free 7 (.free 8 (.free 9 (.free 10 (.free 11 .done)))))))))))), _, by decide +kernel, ?_, fun _ _ h => ⟨_, .inl rfl, h⟩⟩
      conv => whnf
      refine ⟨_, _, St.up hb9 q5, ?_⟩
      conv => whnf
      refine ⟨_, _, St.upd_same _ _ _, ?_⟩
      conv => whnf
      refine ⟨_, ⟨by omega, hga⟩, ?_⟩
      conv => whnf
      refine ⟨.bool true, (hsm _).mono ?_, ?_⟩
      · rintro o S' ⟨rfl, rfl⟩; exact ⟨rfl, rfl⟩
      have w1 : IntKind.i64.wrap ((i : Int) + 1) = ((i + 1 : Nat) : Int) := wrap_nat (by omega)
      conv => whnf
      exact ⟨i + 1, ⟨rfl, ⟨rfl, rfl⟩, rfl, ⟨rfl, rfl⟩, congrArg _ w1, trivial⟩, ⟨_, St.leW_refl _, St.up hb9 q5, St.le_upd' hle hb9 _, by omega⟩, by show ls.length - (i + 1) < ls.length - i; omega⟩
    · conv => whnf
      refine hK _ _ ?_
      clear hK hQ K
      conv => whnf
      refine ⟨_, _, q5, ?_⟩
      conv => whnf
      exact ⟨_, _, ⟨rfl, rfl⟩, hle, AV.leS_refl _ _ _⟩
  · rw [hr] at hrd hso
    clear hno hr
    obtain ⟨j, hj, hk, hz, hcj, hc0⟩ := hso k c rfl
    have hk : k = j + 1 := by simpa using hk
    have hc4 : c = 80 ∨ c = 81 ∨ c = 82 ∨ c = 83 := by
      rcases parseP_code ls[j] with h | h <;> omega
    dsimp only [readAV] at hrd
    subst hk
    clear hso hc0
    rcases hc4 with rfl | rfl | rfl | rfl
    all_goals
      refine awp_seq2 fun K hK hQ => ?_
      conv => whnf
      refine (hrd _).mono ?_
      rintro o T ⟨rfl, rfl⟩
      conv => whnf
      refine hK _ _ ?_
      clear hK hQ K
      refine awp_seq2 fun K hK hQ => ?_
      conv => whnf
      refine (told_fault _ _ (by decide) (by decide) _).mono ?_
      rintro o T ⟨rfl, rfl⟩
      conv => whnf
      intro b5 hb5
      conv => whnf
      refine ⟨_, _, St.upd_same _ _ _, ?_⟩
      conv => whnf
      rw [St.upd_upd]
      refine hK _ _ ?_
      clear hK hQ K
      refine awp_seq2 fun K hK hQ => ?_
      conv => whnf
      refine (hln _).mono ?_
      rintro o T2 ⟨rfl, rfl⟩
      conv => whnf
      refine hK _ _ ?_
      clear hK hQ K
      refine awp_seq2 fun K hK hQ => ?_
      refine awp_seq2 fun K1 hK1 hQ1 => ?_
      refine awp_region ?_
      refine aOps_cut 6 fun K' hK' => ?_
      conv => whnf
      refine ⟨_, _, St.upd_same _ _ _, ?_⟩
      conv => whnf
      refine hK' _ _ ?_
      clear hK' K'
      refine aOps_cut 6 fun K' hK' => ?_
      conv => whnf
      refine hK' _ _ ?_
      clear hK' K'
      refine aOps_cut 4 fun K' hK' => ?_
      conv => whnf
      refine ⟨_, _, St.upd_same _ _ _, ?_⟩
      conv => whnf
      refine hK' _ _ ?_
      clear hK' K'
      conv => whnf
      refine hK1 _ _ ?_
      clear hK1 hQ1 K1
      conv => whnf
      refine hK _ _ ?_
      clear hK hQ K
      generalize hS5 : T.upd b5 _ = S5
      have q50 := (congrFun hS5 b5).symm.trans (St.upd_same _ _ _)
      have hle0 : St.le T S5 := by rw [← hS5]; exact St.le_upd' (St.le_refl _) hb5 _
      refine awp_seq2 fun K hK hQ => ?_
      conv => whnf
      refine ⟨⟨Nat, fun i => [(0, .str s), (5, .ref b5 0), (7, .sl .any 1 (rowsS ls)), (8, .int .i64 (i : Int))],
        fun i S' => S' b5 = S5 b5 ∧ St.le T S' ∧ i ≤ j, fun i => ls.length - i⟩,
        ⟨0, ⟨rfl, rfl, ⟨rfl, rfl⟩, rfl, trivial⟩, _, St.leW_refl _, rfl, hle0, by omega⟩, ?_⟩
      rintro (i : Nat) S1 ⟨q5, hle, hi⟩
      rw [q50] at q5
      conv => whnf
      intro _
      conv => whnf
      refine split_of (fun hlt => ?_) (fun hlt => ?_)
      · have hlt : i < ls.length := by omega
        have hxs : ls[i].size ≤ 8999999 := hpl _ (List.getElem_mem hlt)
        have hp := fun S => Parse_line_ok (G := G) hG hA ls[i] hxs S
        have w1 : IntKind.i64.wrap ((i : Int) + 1) = ((i + 1 : Nat) : Int) := wrap_nat (by omega)
        rcases Nat.lt_or_ge i j with hij | hij
        · have hc := hz i hij
          generalize hgi : ls[i] = x at *
          rw [hc] at hp
          generalize (parseP x).1 = v at *
          conv => whnf
          refine ⟨[.str x], ⟨by omega, by rw [← hgi]; simp [rowsS, hlt]⟩, ?_⟩
          conv => whnf
          refine (hp _).mono ?_
          rintro o T ⟨rfl, rfl⟩
          conv => whnf
          intro b9 hb9
          conv => whnf
          refine ⟨_, _, St.upd_same _ _ _, ?_⟩
          conv => whnf
          rw [St.upd_upd]
          refine (num_ok 0 _).mono ?_
          rintro o T2 ⟨rfl, rfl⟩
          conv => whnf
          refine ⟨[9], (.free 0 (.free 1 (.free 2 (.free 3 (.free 4 (.free 5 (.free 6 (.free 7 (.free 8 (.free 9 (.free 10 (.free 11 .done)))))))))))), _, by decide +kernel, ?_, fun _ _ h => ⟨_, .inl rfl, h⟩⟩
          conv => whnf
          refine ⟨_, _, St.up hb9 q5, ?_⟩
          conv => whnf
          exact ⟨i + 1, ⟨rfl, rfl, ⟨rfl, rfl⟩, congrArg _ w1, trivial⟩, ⟨_, St.leW_refl _, by rw [q50]; exact St.up hb9 q5, St.le_upd' hle hb9 _, by omega⟩, by show ls.length - (i + 1) < ls.length - i; omega⟩
        · obtain rfl : i = j := by omega
          have hc := hcj
          generalize hgi : ls[i] = x at *
          rw [hc] at hp
          generalize (parseP x).1 = v at *
          conv => whnf
          refine ⟨[.str x], ⟨by omega, by rw [← hgi]; simp [rowsS, hlt]⟩, ?_⟩
          conv => whnf
          refine (hp _).mono ?_
          rintro o T ⟨rfl, rfl⟩
          conv => whnf
          intro b9 hb9
          conv => whnf
          refine ⟨_, _, St.upd_same _ _ _, ?_⟩
          conv => whnf
          rw [St.upd_upd]
          refine (num_ok _ _).mono ?_
          rintro o T2 ⟨rfl, rfl⟩
          conv => whnf
          refine ⟨[9], (.free 0 (.free 1 (.free 2 (.free 3 (.free 4 (.free 5 (.free 6 (.free 7 (.free 8 (.free 9 (.free 10 (.free 11 (.free 12 .done))))))))))))), _, by decide +kernel, ?_, fun _ _ h => ⟨_, .inl rfl, h⟩⟩
          conv => whnf
          refine ⟨_, _, St.up hb9 q5, ?_⟩
          conv => whnf
          rw [w1, show (((i + 1 : Nat) : Int) == ((i + 1 : Nat) : Int)) = true from beq_self_eq_true _]
          conv => whnf
          refine ⟨_, _, St.up hb9 q5, ?_⟩
          conv => whnf
          first
            | refine ⟨.int .i64 80, (num_ok 80 _).mono ?_, ?_⟩
            | refine ⟨.int .i64 81, (num_ok 81 _).mono ?_, ?_⟩
            | refine ⟨.int .i64 82, (num_ok 82 _).mono ?_, ?_⟩
            | refine ⟨.int .i64 83, (num_ok 83 _).mono ?_, ?_⟩
          · rintro o S' ⟨rfl, rfl⟩; exact ⟨rfl, rfl⟩
          conv => whnf
          refine hQ _ _ _ (by simp) ?_
          conv => whnf
          exact ⟨_, _, ⟨rfl, rfl⟩, St.le_upd' hle hb9 _, AV.leS_refl _ _ _⟩
      · have := of_decide_eq_false hlt; rw [rowsS_len] at this; omega
end Go.Proofs.YtdlgedpmbeafdaaGreatDoor.Aw

set_option maxRecDepth 100000
set_option linter.unusedVariables false
set_option linter.unusedSimpArgs false
namespace Go.Proofs.YtdlgedpmbeafdaaGreatDoor.Aw
open Go Go.RowKit
variable {G : Nat → Option (List AV)}

/-- Step by step: the text, or the fault's step and number. -/
def writeL : List StepV → List UInt8 → Nat → List UInt8 × Option (Nat × Int)
  | [], acc, _ => (acc, none)
  | v :: l, acc, i => if (printP v).2 = 0 then writeL l (acc ++ ((printP v).1 ++ (⟨#[10]⟩ : ByteArray)).data.toList) (i + 1) else ([], some (i + 1, (printP v).2))
def writeAV (r : List UInt8 × Option (Nat × Int)) : AV := match r.2 with
  | none => .tu [.str ⟨r.1.toArray⟩, .nili]
  | some (i, c) => .tu [.str ByteArray.empty, .ifc 60 (.imm [.int .i64 2, .int .i64 (i : Int), .int .i64 c])]
theorem printP_size (v : StepV) : (printP v).1.size ≤ (textT v).size := by
  unfold printP
  split
  · exact Nat.le_refl _
  · exact Nat.zero_le _
theorem Write_ok (hG : GS G) (hA : GAs G) (l : List StepV) (hl : l.length ≤ 1000000) (hok : ∀ v ∈ l, OkStep v ∧ (textT v).size ≤ 8999999) (S : St) :
    Triple P (C G) 16 [.sl .any 10 (rowsT l)] S fun o S' => o = .ret (writeAV (writeL l [] 0)) ∧ S' = S := by
  refine triple_of_awp (hT G) hm Tryz.func16 rfl (by decide +kernel) rfl (by decide +kernel) (by show 1 ≤ _; decide +kernel) rfl ?_
  refine awp_seq2 fun K hK hQ => ?_
  conv => whnf
  refine hK _ _ ?_
  clear hK hQ K
  refine awp_seq2 fun K hK hQ => ?_
  conv => whnf
  intro b4 hb4
  conv => whnf
  refine hK _ _ ?_
  clear hK hQ K
  have hnew := BldW.new hb4
  refine awp_seq2 fun K hK hQ => ?_
  conv => whnf
  intro _
  conv => whnf
  refine ⟨⟨Nat × List UInt8, fun x => [(4, .ref b4 0), (9, .sl .any 10 (rowsT l)), (10, .int .i64 (l.length : Int)), (11, .int .i64 (x.1 : Int))],
    fun x S1 => (∃ T', St.le S T' ∧ BldW T' S1 b4 x.2) ∧ x.1 ≤ l.length ∧ x.2.length ≤ x.1 * 9000000 ∧ writeL (l.drop x.1) x.2 x.1 = writeL l [] 0, fun x => l.length - x.1⟩,
    ⟨(0, []), ⟨rfl, ⟨rfl, rfl⟩, congrArg (AV.int .i64) (by rw [rowsT_len]), rfl, trivial⟩, _, St.leW_refl _, ⟨S, St.le_refl _, hnew⟩, by omega, by simp, rfl⟩, ?_⟩
  rintro ⟨i, acc⟩ S1 ⟨⟨T', hT, hB⟩, h2, h3, h4⟩
  dsimp only at h2 h3 h4 hB
  conv => whnf
  refine split_of (fun hlt => ?_) (fun hlt => ?_)
  · have hlt : i < l.length := by have := of_decide_eq_true hlt; omega
    have hd : l.drop i = l[i] :: l.drop (i + 1) := List.drop_eq_getElem_cons hlt
    rw [hd] at h4
    obtain ⟨ho, hsz⟩ := hok _ (List.getElem_mem hlt)
    have hpr := fun S => Print_ok (G := G) hG hA l[i] ho hsz (parseP_len _ hsz) S
    have hps := printP_size l[i]
    have ga : (rowsT l)[(i : Int).toNat]? = some (stepR l[i]) := by simp [rowsT, hlt]
    simp only [writeL] at h4
    generalize hgi : l[i] = v at *
    generalize (printP v).1 = tx at *
    generalize (printP v).2 = e at *
    conv => whnf
    refine ⟨_, ⟨by omega, ga⟩, ?_⟩
    conv => whnf
    intro b6 hb6
    conv => whnf
    refine ⟨_, _, St.upd_same _ _ _, ?_⟩
    conv => whnf
    rw [St.upd_upd]
    refine ⟨_, _, St.upd_same _ _ _, ?_⟩
    conv => whnf
    refine (hpr _).mono ?_
    rintro o T ⟨rfl, rfl⟩
    have f6 : T' b6 = none := St.le_none hB.1 hb6
    have hT6 : St.le S (T'.upd b6 (.obj 40 (stepR v))) := St.le_upd' hT f6 _
    have hB6 := hB.over (.inl hb6) (.obj 40 (stepR v))
    have w1 : IntKind.i64.wrap ((i : Int) + 1) = ((i + 1 : Nat) : Int) := wrap_nat (by omega)
    conv => whnf
    refine split_of (fun he => ?_) (fun he => ?_)
    · have he : ¬ e = 0 := by simpa using he
      rw [if_neg he] at h4
      rw [← h4] at hQ
      conv => whnf
      intro b8 hb8
      conv => whnf
      refine hQ _ _ _ (by simp) ?_
      conv => whnf
      rw [w1]
      have hle : St.le S ((S1.upd b6 (.obj 40 (stepR v))).upd b8 (.obj 62 [.int .i64 2, .int .i64 ((i + 1 : Nat) : Int), .int .i64 e])) := St.le_trans hT6 (St.le_trans hB6.1 (St.le_upd' (St.le_refl _) hb8 _))
      refine ⟨_, _, ⟨rfl, rfl⟩, hle, ?_⟩
      exact ⟨rfl, ⟨rfl, St.le_none (St.le_trans hT6 hB6.1) hb8, _, _, St.upd_same _ _ _, rfl⟩, rfl⟩
    · have he : e = 0 := by simpa using he
      rw [if_pos he] at h4
      clear hK hQ
      conv => whnf
      refine ⟨by show tx.size + 1 ≤ _; omega, ?_⟩
      conv => whnf
      refine (hB6.write (tx ++ (⟨#[10]⟩ : ByteArray)) ?_).mono ?_
      · rw [ba_size_append]; show _ + (_ + 1) ≤ _; omega
      rintro o S' ⟨rfl, hB'⟩
      conv => whnf
      refine ⟨(i + 1, acc ++ (tx ++ (⟨#[10]⟩ : ByteArray)).data.toList), ⟨rfl, ⟨rfl, rfl⟩, rfl, congrArg _ w1, trivial⟩, ⟨_, St.leW_refl _, ⟨_, hT6, hB'⟩, by show i + 1 ≤ _; omega, ?_, h4⟩, by show l.length - (i + 1) < l.length - i; omega⟩
      show (acc ++ (tx ++ (⟨#[10]⟩ : ByteArray)).data.toList).length ≤ (i + 1) * 9000000
      have e1 : (tx ++ (⟨#[10]⟩ : ByteArray)).data.toList.length = tx.size + 1 := by
        simp
      rw [List.length_append, e1]
      omega
  · have hlt : i = l.length := by have := of_decide_eq_false hlt; omega
    rw [hlt, List.drop_length] at h4
    rw [← h4] at hK
    conv => whnf
    refine hK _ _ ?_
    clear hK hQ K
    conv => whnf
    refine hB.string.mono ?_
    rintro o S' ⟨rfl, hS'⟩
    conv => whnf
    exact ⟨_, _, ⟨rfl, rfl⟩, St.le_trans hT hS', AV.leS_refl _ _ _⟩
end Go.Proofs.YtdlgedpmbeafdaaGreatDoor.Aw

set_option maxRecDepth 100000
set_option linter.unusedVariables false
set_option linter.unusedSimpArgs false
namespace Go.Proofs.YtdlgedpmbeafdaaGreatDoor.Aw
open Go Go.RowKit

def nlL : List UInt8 → List (List UInt8)
  | [] => [[]]
  | c :: r => if c = 10 then [] :: nlL r else match nlL r with | [] => [[c]] | x :: xs => (c :: x) :: xs
theorem nlL_ne : ∀ s, nlL s ≠ []
  | [] => by simp [nlL]
  | c :: r => by
    unfold nlL
    split
    · simp
    · split <;> simp
theorem splitK_nl : ∀ (s : List UInt8) (k : Nat), s.count 10 ≤ k → Lib.splitK [10] 0 k s = nlL s
  | [], k, _ => by
    cases k with
    | zero => rfl
    | succ k => simp [Lib.splitK, Lib.index_one, Lib.indexByte, nlL]
  | c :: r, k, h => by
    by_cases hc : c = 10
    · subst hc
      cases k with
      | zero => simp at h
      | succ k =>
        have ih := splitK_nl r k (by simp at h; omega)
        simp [Lib.splitK, Lib.index_one, Lib.indexByte, nlL, ih]
    · have hcnt : (c :: r).count 10 = r.count 10 := by rw [List.count_cons_of_ne hc]
      rw [hcnt] at h
      have ih := splitK_nl r k h
      unfold nlL
      rw [if_neg hc, ← ih]
      cases k with
      | zero => rfl
      | succ k =>
        have hge := Lib.indexByte_ge r 10
        by_cases hi : Lib.indexByte r 10 = -1
        · simp [Lib.splitK, Lib.index_one, Lib.indexByte, hc, hi]
        · have e1 : (Lib.indexByte r 10 + 1 == -1) = false := by simp; omega
          have e2 : (Lib.indexByte r 10 + 1).toNat = (Lib.indexByte r 10).toNat + 1 := by omega
          simp [Lib.splitK, Lib.index_one, Lib.indexByte, hc, hi, e1, e2]
def trimL (l : List (List UInt8)) : List (List UInt8) := if l[l.length - 1]? = some [] then l.take (l.length - 1) else l
theorem bytes_inj {a b : ByteArray} (h : a.data.toList = b.data.toList) : a = b := by
  obtain ⟨⟨a⟩⟩ := a
  obtain ⟨⟨b⟩⟩ := b
  simp at h
  rw [h]
theorem maps_inj : ∀ {a b : List ByteArray}, a.map (·.data.toList) = b.map (·.data.toList) → a = b
  | [], [], _ => rfl
  | [], _ :: _, h => by simp at h
  | _ :: _, [], h => by simp at h
  | x :: a, y :: b, h => by
    simp only [List.map_cons, List.cons.injEq] at h
    rw [bytes_inj h.1, maps_inj h.2]
theorem linesOf_data (s : ByteArray) : (linesOf s).map (·.data.toList) = trimL (nlL s.data.toList) := by
  have hs : (splitS s sepNL).map (·.data.toList) = nlL s.data.toList := by
    rw [splitS, Lib.splitB_data]
    exact splitK_nl _ _ (by rw [← Lib.count_one]; exact Nat.le_refl _)
  rw [← hs]
  have hl : ((splitS s sepNL).map (·.data.toList)).length = (splitS s sepNL).length := by simp
  unfold linesOf trimL
  simp only [hl, List.getElem?_map]
  cases hx : (splitS s sepNL)[(splitS s sepNL).length - 1]? with
  | none => simp
  | some x =>
    by_cases he : x = ⟨#[]⟩
    · subst he
      simp
    · have he' : x.data.toList ≠ [] := fun e => he (bytes_inj (by rw [e]))
      simp [he, he']
theorem nlL_cons (r : List UInt8) : ∀ (x : List UInt8), (∀ c ∈ x, c ≠ 10) → nlL (x ++ 10 :: r) = x :: nlL r
  | [], _ => by simp [nlL]
  | c :: x, h => by
    have ih := nlL_cons r x fun d hd => h d (by simp [hd])
    have hc := h c (by simp)
    have e : nlL (c :: (x ++ 10 :: r)) = match nlL (x ++ 10 :: r) with | [] => [[c]] | y :: ys => (c :: y) :: ys := by
      rw [nlL, if_neg hc]
    rw [List.cons_append, e, ih]
theorem nlL_join : ∀ (ls : List (List UInt8)), (∀ x ∈ ls, ∀ c ∈ x, c ≠ 10) → nlL (ls.flatMap fun x => x ++ [10]) = ls ++ [[]]
  | [], _ => rfl
  | x :: ls, h => by
    have ih := nlL_join ls fun y hy => h y (by simp [hy])
    rw [List.flatMap_cons, List.append_assoc, List.singleton_append, nlL_cons _ x (h x (by simp)), ih]
    rfl
theorem trimL_snoc (ls : List (List UInt8)) : trimL (ls ++ [[]]) = ls := by
  unfold trimL
  simp
theorem hasNL_no {s : ByteArray} (h : hasNL s = false) : ∀ c ∈ s.data.toList, c ≠ 10 := by
  unfold hasNL at h
  have h := of_decide_eq_false h
  generalize s.data.toList = l at *
  induction l with
  | nil => intro c hc; cases hc
  | cons d l ih =>
    have hge := Lib.indexByte_ge l 10
    by_cases hd : d = 10
    · subst hd; simp [Lib.indexByte] at h
    · intro c hc
      have h2 : ¬ 0 ≤ Lib.indexByte l 10 := by
        intro h3
        apply h
        by_cases hi : Lib.indexByte l 10 = -1
        · omega
        · simp [Lib.indexByte, hd, hi]; omega
      rcases List.mem_cons.1 hc with rfl | hc
      · exact hd
      · exact ih (decide_eq_false h2) h2 c hc
theorem hasNL_of {s : ByteArray} (h : ∀ c ∈ s.data.toList, c ≠ 10) : hasNL s = false := by
  unfold hasNL
  apply decide_eq_false
  generalize s.data.toList = l at *
  induction l with
  | nil => simp [Lib.indexByte]
  | cons d l ih =>
    have hd := h d (by simp)
    have ih := ih fun c hc => h c (by simp [hc])
    have hge := Lib.indexByte_ge l 10
    simp only [Lib.indexByte]
    by_cases hi : Lib.indexByte l 10 = -1
    · simp [hd, hi]
    · omega
def logB (l : List ByteArray) : List UInt8 := l.flatMap fun x => x.data.toList ++ [10]
theorem linesOf_join (ls : List ByteArray) (h : ∀ x ∈ ls, hasNL x = false) : linesOf ⟨(logB ls).toArray⟩ = ls := by
  apply maps_inj
  rw [linesOf_data]
  have e : (⟨(logB ls).toArray⟩ : ByteArray).data.toList = (ls.map (·.data.toList)).flatMap fun x => x ++ [10] := by
    simp [logB, List.flatMap_map]
  rw [e, nlL_join _ (fun x hx => by
    obtain ⟨y, hy, rfl⟩ := List.mem_map.1 hx
    exact hasNL_no (h y hy)), trimL_snoc]
theorem printP_zero {v : StepV} (h : (printP v).2 = 0) : (printP v).1 = textT v ∧ parseP (textT v) = (v, 0) ∧ hasNL (textT v) = false := by
  unfold printP at h ⊢
  by_cases hc : (parseP (textT v)).2 = 0 ∧ hasNL (textT v) = false ∧ (parseP (textT v)).1 = v
  · rw [if_pos hc]
    exact ⟨rfl, Prod.ext hc.2.2 hc.1, hc.2.1⟩
  · rw [if_neg hc] at h
    exact absurd h (by decide)
theorem printP_of {v : StepV} (h1 : parseP (textT v) = (v, 0)) (h2 : hasNL (textT v) = false) : printP v = (textT v, 0) := by
  unfold printP
  rw [if_pos ⟨by rw [h1], h2, by rw [h1]⟩]
theorem printP_code (v : StepV) : (printP v).2 = 0 ∨ (printP v).2 = 83 := by
  unfold printP
  split
  · exact .inl rfl
  · exact .inr rfl
theorem writeL_none : ∀ (l : List StepV) (acc : List UInt8) (i : Nat), (writeL l acc i).2 = none → (∀ v ∈ l, (printP v).2 = 0) ∧ (writeL l acc i).1 = acc ++ logB (l.map textT)
  | [], acc, i, _ => by simp [writeL, logB]
  | v :: l, acc, i, h => by
    unfold writeL at h ⊢
    by_cases he : (printP v).2 = 0
    · rw [if_pos he] at h ⊢
      obtain ⟨h1, h2⟩ := writeL_none l _ _ h
      refine ⟨fun x hx => ?_, ?_⟩
      · rcases List.mem_cons.1 hx with rfl | hx
        · exact he
        · exact h1 x hx
      · rw [h2, (printP_zero he).1]
        simp [logB]
    · rw [if_neg he] at h; cases h
theorem writeL_all : ∀ (l : List StepV) (acc : List UInt8) (i : Nat), (∀ v ∈ l, (printP v).2 = 0) → (writeL l acc i).2 = none
  | [], acc, i, _ => rfl
  | v :: l, acc, i, h => by
    unfold writeL
    rw [if_pos (h v (by simp))]
    exact writeL_all l _ _ fun x hx => h x (by simp [hx])
theorem writeL_some : ∀ (l : List StepV) (acc : List UInt8) (i k : Nat) (c : Int), (writeL l acc i).2 = some (k, c) → (writeL l acc i).1 = [] ∧ ∃ j, ∃ h : j < l.length, k = i + j + 1 ∧ (printP l[j]).2 = c ∧ c = 83
  | [], acc, i, k, c, h => by simp [writeL] at h
  | v :: l, acc, i, k, c, h => by
    unfold writeL at h ⊢
    by_cases he : (printP v).2 = 0
    · rw [if_pos he] at h ⊢
      obtain ⟨h0, j, hj, h1, h2, h3⟩ := writeL_some l _ _ k c h
      exact ⟨h0, j + 1, by simp; omega, by omega, h2, h3⟩
    · rw [if_neg he] at h ⊢
      simp only [Option.some.injEq, Prod.mk.injEq] at h
      exact ⟨rfl, 0, by simp, by omega, h.2, by rw [← h.2]; exact (printP_code v).resolve_left he⟩
theorem readL_texts : ∀ (l acc : List StepV), (∀ v ∈ l, parseP (textT v) = (v, 0)) → readL (l.map textT) acc = (acc ++ l, none)
  | [], acc, _ => by simp [readL]
  | v :: l, acc, h => by
    simp only [List.map_cons, readL]
    rw [h v (by simp), if_pos rfl, readL_texts l _ fun x hx => h x (by simp [hx])]
    simp
/-- What is written is read again. -/
theorem written_read {l : List StepV} (h : (writeL l [] 0).2 = none) : linesOf ⟨(writeL l [] 0).1.toArray⟩ = l.map textT ∧ readL (linesOf ⟨(writeL l [] 0).1.toArray⟩) [] = (l, none) := by
  obtain ⟨h1, h2⟩ := writeL_none l [] 0 h
  have e : linesOf ⟨(writeL l [] 0).1.toArray⟩ = l.map textT := by
    rw [h2, List.nil_append]
    exact linesOf_join _ fun x hx => by
      obtain ⟨v, hv, rfl⟩ := List.mem_map.1 hx
      exact (printP_zero (h1 v hv)).2.2
  refine ⟨e, ?_⟩
  rw [e, readL_texts l [] fun v hv => (printP_zero (h1 v hv)).2.1]
  rfl
end Go.Proofs.YtdlgedpmbeafdaaGreatDoor.Aw

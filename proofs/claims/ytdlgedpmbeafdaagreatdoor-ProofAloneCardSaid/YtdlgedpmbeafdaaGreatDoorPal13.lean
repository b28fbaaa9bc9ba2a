/-
  Plain: what the four lines of known() parse to.
  hallmarklaw8.sameSteps at the same list twice.
  hallmarklaw8.known, walked.
  Plain: what Read's answer says of the lines; the errors' numbers.
  hallmarklaw8.ProofAlone, walked: it answers true.
-/
import Derived.Test.YtdlgedpmbeafdaaGreatDoorPal12
set_option maxRecDepth 100000
set_option linter.unusedVariables false
namespace Go.Proofs.YtdlgedpmbeafdaaGreatDoor.Aw
open Go Go.RowKit

def kn1 : ByteArray := (⟨#[112, 111, 108, 32, 51, 32, 52, 32, 43, 32, 50, 32, 100, 32, 120, 53, 32, 119, 32, 115, 32, 126, 120, 49, 32, 51, 32, 42, 32, 43]⟩ : ByteArray)
def kn2 : ByteArray := (⟨#[99, 111, 110, 99, 108, 117, 115, 105, 111, 110, 32, 66, 79, 85, 78, 68, 83, 32, 51, 32, 58, 32, 49, 55, 32, 51]⟩ : ByteArray)
def kn3 : ByteArray := (⟨#[112, 111, 108, 32, 51, 32, 52, 32, 45]⟩ : ByteArray)
def kn4 : ByteArray := (⟨#[114, 117, 112, 32, 49, 32, 120, 49, 32, 62, 61, 32, 49]⟩ : ByteArray)
def kn5 : ByteArray := (⟨#[114, 117, 112, 32, 50, 32, 120, 49, 32, 45, 51, 32, 126, 120, 50, 32, 62, 61, 32, 48, 32, 59]⟩ : ByteArray)
theorem kn3_parse : (parseP kn3).2 = 80 := by decide +kernel
theorem kn4_parse : (parseP kn4).2 = 82 := by decide +kernel
theorem kn1_parse : (parseP kn1).2 = 0 ∧ (parseP kn1).1.ops.length = 9 ∧ (parseP kn1).1.ops[4]? = some (7, ByteArray.empty, 5) ∧ (parseP kn1).1.ops[6]? = some (2, ByteArray.empty, -1) := by decide +kernel
theorem kn2_parse : (parseP kn2).2 = 0 ∧ (parseP kn2).1.s7 = ⟨#[51]⟩ ∧ (parseP kn2).1.s8 = ⟨#[51]⟩ ∧ (parseP kn2).1.ids.length = 1 := by decide +kernel
def knStep : StepV := ⟨4, ByteArray.empty, [], [(⟨#[50]⟩, 1), (⟨#[45, 51]⟩, -2)], ⟨#[48]⟩, [], [], 0, ByteArray.empty, ByteArray.empty⟩
theorem kn5_print : printP knStep = (kn5, 0) := by decide +kernel
end Go.Proofs.YtdlgedpmbeafdaaGreatDoor.Aw

set_option maxRecDepth 100000
set_option linter.unusedVariables false
set_option linter.unusedSimpArgs false
namespace Go.Proofs.YtdlgedpmbeafdaaGreatDoor.Aw
open Go Go.RowKit
variable {G : Nat → Option (List AV)}

theorem sameSteps_self (a : List StepV) (hlen : a.length ≤ 1000000000) (hs : ∀ v ∈ a, LenStep v) (S : St) : Triple P (C G) 18 [.sl .any 10 (rowsT a), .sl .any 10 (rowsT a)] S fun o S' => o = .ret (.bool true) ∧ S' = S := by
  refine triple_of_awp (hT G) hm Tryz.func18 rfl (by decide +kernel) rfl (by decide +kernel) (by show 2 ≤ _; decide +kernel) rfl ?_
  conv => whnf
  intro _
  conv => whnf
  intro _
  conv => whnf
  refine split_of (fun hne => by simp at hne) (fun hne => ?_)
  conv => whnf
  refine ⟨⟨Nat, fun i => [(0, .sl .any 10 (rowsT a)), (1, .sl .any 10 (rowsT a)), (5, .int .i64 (i : Int))], fun i S' => S' = S ∧ i ≤ a.length, fun i => a.length - i⟩,
    ⟨0, ⟨⟨rfl, rfl⟩, ⟨rfl, rfl⟩, rfl, trivial⟩, _, St.leW_refl _, rfl, by omega⟩, ?_⟩
  rintro (i : Nat) S' ⟨rfl, hi⟩
  conv => whnf
  intro _
  conv => whnf
  refine split_of (fun hlt => ?_) (fun hlt => ?_)
  · have hlt : i < a.length := by have := of_decide_eq_true hlt; rw [rowsT_len] at this; omega
    have ga : (rowsT a)[(i : Int).toNat]? = some (stepR a[i]) := by simp [rowsT, hlt]
    have hl := hs _ (List.getElem_mem hlt)
    have hsm := fun S => Same_self (G := G) a[i] hl.ops hl.row hl.lits hl.ids S
    generalize a[i] = v at *
    conv => whnf
    refine ⟨[8], (.free 0 (.free 1 (.free 2 (.free 3 (.free 4 (.free 5 (.free 6 (.free 7 (.free 8 (.free 9 .done)))))))))), _, by decide +kernel, ?_, fun _ _ h => ⟨_, .inl rfl, h⟩⟩
    conv => whnf
    refine ⟨_, ⟨by omega, ga⟩, ?_⟩
    conv => whnf
    refine ⟨_, ⟨by omega, ga⟩, ?_⟩
    conv => whnf
    refine ⟨.bool true, (hsm _).mono ?_, ?_⟩
    · rintro o S' ⟨rfl, rfl⟩; exact ⟨rfl, rfl⟩
    have w1 : IntKind.i64.wrap ((i : Int) + 1) = ((i + 1 : Nat) : Int) := wrap_nat (by omega)
    conv => whnf
    exact ⟨i + 1, ⟨⟨rfl, rfl⟩, ⟨rfl, rfl⟩, congrArg _ w1, trivial⟩, ⟨_, St.leW_refl _, rfl, by omega⟩, by show a.length - (i + 1) < a.length - i; omega⟩
  · conv => whnf
    exact ⟨_, _, ⟨rfl, rfl⟩, St.le_refl _, AV.leS_refl _ _ _⟩
end Go.Proofs.YtdlgedpmbeafdaaGreatDoor.Aw

set_option maxRecDepth 100000
set_option linter.unusedVariables false
set_option linter.unusedSimpArgs false
namespace Go.Proofs.YtdlgedpmbeafdaaGreatDoor.Aw
open Go Go.RowKit
variable {G : Nat → Option (List AV)}

/-- A contract with a weaker argument, a struct. -/
theorem Triple.argAg {C : Cx} {f : FuncId} {xs ys : List AV} {S : St} {Q : Out → St → Prop} (h : Triple P C f [.ag ys] S Q) (hle : leL xs ys) : Triple P C f [.ag xs] S Q :=
  ⟨fun w vs hY hg hr => h.out w vs hY hg (by
    obtain ⟨v, hv, r⟩ := RelL.one hr
    simp only [Rel] at r
    obtain ⟨cs, rfl, r1, r2⟩ := r
    rw [hv]
    simp only [RelL, Rel]
    exact ⟨_, _, rfl, ⟨cs, rfl, leL_sound hle r1, r2⟩, rfl⟩)⟩
theorem okStep_kn : OkStep knStep := ⟨⟨by decide, by intro o ho; cases ho⟩, ⟨by decide, fun p hp => by
    simp only [knStep, List.mem_cons, List.not_mem_nil, or_false] at hp
    rcases hp with rfl | rfl <;> exact ⟨⟨by decide, by decide⟩, by decide⟩, by decide⟩, ⟨by decide, by intro z hz; cases hz⟩, ⟨by decide, by intro z hz; cases hz⟩, by decide, by decide, by decide⟩
theorem known_ok (hG : GS G) (hA : GAs G) (S : St) : Triple P (C G) 6 [] S fun o S' => o = .ret (.bool true) ∧ S' = S := by
  have p1 := fun S => Parse_line_ok (G := G) hG hA kn1 (by decide) S
  have p2 := fun S => Parse_line_ok (G := G) hG hA kn2 (by decide) S
  have p3 := fun S => Parse_line_ok (G := G) hG hA kn3 (by decide) S
  have p4 := fun S => Parse_line_ok (G := G) hG hA kn4 (by decide) S
  obtain ⟨c11, c12, c13, c14⟩ := kn1_parse
  obtain ⟨c21, c22, c23, c24⟩ := kn2_parse
  rw [c11] at p1
  rw [c21] at p2
  rw [kn3_parse] at p3
  rw [kn4_parse] at p4
  generalize (parseP kn1).1 = v1 at *
  generalize (parseP kn2).1 = v2 at *
  generalize (parseP kn3).1 = v3 at *
  generalize (parseP kn4).1 = v4 at *
  refine triple_of_awp (hT G) hm Tryz.func6 rfl (by decide +kernel) rfl (by decide +kernel) (by show 0 ≤ _; decide +kernel) rfl ?_
  refine awp_seq2 fun K hK hQ => ?_
  conv => whnf
  refine hK _ _ ?_
  clear hK hQ K
  refine awp_seq2 fun K hK hQ => ?_
  conv => whnf
  refine (p1 _).mono ?_
  rintro o T ⟨rfl, rfl⟩
  conv => whnf
  intro b1 hb1
  conv => whnf
  refine ⟨_, _, St.upd_same _ _ _, ?_⟩
  conv => whnf
  rw [St.upd_upd]
  refine hK _ _ ?_
  clear hK hQ K
  refine awp_seq2 fun K hK hQ => ?_
  conv => whnf
  refine (p2 _).mono ?_
  rintro o T ⟨rfl, rfl⟩
  conv => whnf
  intro b3 hb3
  conv => whnf
  refine ⟨_, _, St.upd_same _ _ _, ?_⟩
  conv => whnf
  rw [St.upd_upd]
  refine hK _ _ ?_
  clear hK hQ K
  refine awp_seq2 fun K hK hQ => ?_
  conv => whnf
  refine (p3 _).mono ?_
  rintro o T ⟨rfl, rfl⟩
  conv => whnf
  intro b5 hb5
  conv => whnf
  refine ⟨_, _, St.upd_same _ _ _, ?_⟩
  conv => whnf
  rw [St.upd_upd]
  refine hK _ _ ?_
  clear hK hQ K
  refine awp_seq2 fun K hK hQ => ?_
  conv => whnf
  refine (p4 _).mono ?_
  rintro o T ⟨rfl, rfl⟩
  conv => whnf
  intro b7 hb7
  conv => whnf
  refine ⟨_, _, St.upd_same _ _ _, ?_⟩
  conv => whnf
  rw [St.upd_upd]
  refine hK _ _ ?_
  clear hK hQ K
  refine awp_seq2 fun K hK hQ => ?_
  conv => whnf
  intro bb hbb
  conv => whnf
  have hpr := fun S => Print_ok (G := G) hG hA knStep okStep_kn (by decide +kernel) (parseP_len _ (by decide +kernel)) S
  rw [kn5_print] at hpr
  refine Triple.mono (Triple.argAg (hpr _) (by exact ⟨rfl, rfl, rfl, ⟨rfl, rfl⟩, rfl, rfl, rfl, rfl, rfl, rfl, trivial⟩)) ?_
  rintro o T ⟨rfl, rfl⟩
  conv => whnf
  refine hK _ _ ?_
  clear hK hQ K
  refine awp_seq2 fun K hK hQ => ?_
  refine awp_region ?_
  have i4 : (rowsO v1.ops)[(4 : Int).toNat]? = some [.int .i64 7, .str ByteArray.empty, .int .i64 5] := by simp [rowsO, c13]
  have i6 : (rowsO v1.ops)[(6 : Int).toNat]? = some [.int .i64 2, .str ByteArray.empty, .int .i64 (-1)] := by simp [rowsO, c14]
  refine aOps_cut 9 fun K' hK' => ?_
  conv => whnf
  refine (num_ok 0 _).mono ?_
  rintro o T2 ⟨rfl, rfl⟩
  conv => whnf
  refine ⟨_, _, St.up hbb (St.up hb7 (St.up hb5 (St.up hb3 (St.upd_same _ _ _)))), ?_⟩
  conv => whnf
  intro _
  conv => whnf
  rw [show (((rowsO v1.ops).length : Int) == 9) = true from by rw [rowsO_len, c12]; rfl]
  refine hK' _ _ ?_
  clear hK' K'
  refine aOps_cut 8 fun K' hK' => ?_
  conv => whnf
  refine ⟨_, _, St.up hbb (St.up hb7 (St.up hb5 (St.up hb3 (St.upd_same _ _ _)))), ?_⟩
  conv => whnf
  refine ⟨_, ⟨by decide, i4⟩, ?_⟩
  conv => whnf
  refine hK' _ _ ?_
  clear hK' K'
  refine aOps_cut 8 fun K' hK' => ?_
  conv => whnf
  refine ⟨_, _, St.up hbb (St.up hb7 (St.up hb5 (St.up hb3 (St.upd_same _ _ _)))), ?_⟩
  conv => whnf
  refine ⟨_, ⟨by decide, i6⟩, ?_⟩
  conv => whnf
  refine hK' _ _ ?_
  clear hK' K'
  refine aOps_cut 5 fun K' hK' => ?_
  conv => whnf
  refine (num_ok 0 _).mono ?_
  rintro o T2 ⟨rfl, rfl⟩
  conv => whnf
  refine hK' _ _ ?_
  clear hK' K'
  refine aOps_cut 5 fun K' hK' => ?_
  conv => whnf
  refine ⟨_, _, St.up hbb (St.up hb7 (St.up hb5 (St.upd_same _ _ _))), ?_⟩
  conv => whnf
  rw [show decide (v2.s7 = ⟨#[51]⟩) = true from decide_eq_true c22]
  refine hK' _ _ ?_
  clear hK' K'
  refine aOps_cut 5 fun K' hK' => ?_
  conv => whnf
  refine ⟨_, _, St.up hbb (St.up hb7 (St.up hb5 (St.upd_same _ _ _))), ?_⟩
  conv => whnf
  rw [show decide (v2.s8 = ⟨#[51]⟩) = true from decide_eq_true c23]
  refine hK' _ _ ?_
  clear hK' K'
  refine aOps_cut 6 fun K' hK' => ?_
  conv => whnf
  refine ⟨_, _, St.up hbb (St.up hb7 (St.up hb5 (St.upd_same _ _ _))), ?_⟩
  conv => whnf
  intro _
  conv => whnf
  rw [show (((rowsS v2.ids).length : Int) == 1) = true from by rw [rowsS_len, c24]; rfl]
  refine hK' _ _ ?_
  clear hK' K'
  refine aOps_cut 5 fun K' hK' => ?_
  conv => whnf
  refine (num_ok 80 _).mono ?_
  rintro o T2 ⟨rfl, rfl⟩
  conv => whnf
  refine hK' _ _ ?_
  clear hK' K'
  refine aOps_cut 5 fun K' hK' => ?_
  conv => whnf
  refine (num_ok 82 _).mono ?_
  rintro o T2 ⟨rfl, rfl⟩
  conv => whnf
  refine hK' _ _ ?_
  clear hK' K'
  refine aOps_cut 5 fun K' hK' => ?_
  conv => whnf
  refine (num_ok 0 _).mono ?_
  rintro o T2 ⟨rfl, rfl⟩
  conv => whnf
  refine hK' _ _ ?_
  clear hK' K'
  refine aOps_cut 4 fun K' hK' => ?_
  conv => whnf
  refine hK' _ _ ?_
  clear hK' K'
  refine aOps_cut 1 fun K' hK' => ?_
  conv => whnf
  refine hK' _ _ ?_
  clear hK' K'
  conv => whnf
  refine hK _ _ ?_
  clear hK hQ K
  conv => whnf
  exact ⟨_, _, ⟨rfl, rfl⟩, St.le_upd' (St.le_upd' (St.le_upd' (St.le_upd' (St.le_upd' (St.le_refl _) hb1 _) hb3 _) hb5 _) hb7 _) hbb _, AV.leS_refl _ _ _⟩
end Go.Proofs.YtdlgedpmbeafdaaGreatDoor.Aw

set_option maxRecDepth 100000
set_option linter.unusedVariables false
set_option linter.unusedSimpArgs false
namespace Go.Proofs.YtdlgedpmbeafdaaGreatDoor.Aw
open Go Go.RowKit

theorem readL_none : ∀ (ls : List ByteArray) (acc : List StepV), (readL ls acc).2 = none → (readL ls acc).1 = acc ++ ls.map (fun s => (parseP s).1) ∧ ∀ s ∈ ls, (parseP s).2 = 0
  | [], acc, _ => by simp [readL]
  | s :: l, acc, h => by
    unfold readL at h ⊢
    by_cases he : (parseP s).2 = 0
    · rw [if_pos he] at h ⊢
      obtain ⟨h1, h2⟩ := readL_none l _ h
      refine ⟨by rw [h1]; simp, fun x hx => ?_⟩
      rcases List.mem_cons.1 hx with rfl | hx
      · exact he
      · exact h2 x hx
    · rw [if_neg he] at h; cases h
theorem readL_some : ∀ (ls : List ByteArray) (acc : List StepV) (k : Nat) (c : Int), (readL ls acc).2 = some (k, c) → ∃ j, ∃ h : j < ls.length, k = acc.length + j + 1 ∧ (∀ i (hi : i < j), (parseP (ls[i]'(by omega))).2 = 0) ∧ (parseP ls[j]).2 = c ∧ c ≠ 0
  | [], acc, k, c, h => by simp [readL] at h
  | s :: l, acc, k, c, h => by
    unfold readL at h
    by_cases he : (parseP s).2 = 0
    · rw [if_pos he] at h
      obtain ⟨j, hj, h1, h2, h3, h4⟩ := readL_some l _ k c h
      refine ⟨j + 1, by simp; omega, by simp at h1; omega, fun i hi => ?_, h3, h4⟩
      cases i with
      | zero => exact he
      | succ i => exact h2 i (by omega)
    · rw [if_neg he] at h
      simp only [Option.some.injEq, Prod.mk.injEq] at h
      exact ⟨0, by simp, by simp [← h.1], fun i hi => by omega, h.2, by rw [← h.2]; exact he⟩
/-- An error's number. -/
def Code (e : Int) : Prop := e = 0 ∨ (80 ≤ e ∧ e ≤ 83)
theorem code0 : Code 0 := .inl rfl
theorem code80 : Code 80 := .inr ⟨by decide, by decide⟩
theorem code81 : Code 81 := .inr ⟨by decide, by decide⟩
theorem code82 : Code 82 := .inr ⟨by decide, by decide⟩
theorem exactG_code : ∀ (l xs : List ByteArray), Code (exactG l xs).2
  | l, [] => by cases l <;> exact code0
  | [], _ :: _ => code82
  | w :: l, x :: xs => by
    unfold exactG
    split
    · exact exactG_code l xs
    · exact code80
theorem numG_code (low : Int) (l : List ByteArray) : Code (numG low l).2.1 := by
  cases l with
  | nil => exact code82
  | cons w l =>
    simp only [numG]
    split
    · exact code0
    · exact code81
theorem idsG_code : ∀ (ws ids : List ByteArray), Code (idsG ws ids).2.1
  | [], ids => code0
  | w :: l, ids => by
    unfold idsG
    split
    · exact idsG_code l _
    · exact code81
theorem litsG_code : ∀ (ws : List ByteArray) (ls : List Int), Code (litsG ws ls).2.1
  | [], ls => code0
  | w :: l, ls => by
    unfold litsG
    split
    · exact code81
    · exact litsG_code l _
theorem pieceG_code : ∀ (ws : List ByteArray) (p : List (ByteArray × Int)), Code (pieceG ws p).2.1
  | [], p => code82
  | [w], p => by
    unfold pieceG
    split
    · exact code0
    · split
      · exact code82
      · exact code81
  | w :: x :: l, p => by
    unfold pieceG
    split
    · exact code0
    · split
      · split
        · exact code81
        · exact pieceG_code l _
      · exact code81
theorem rowG_code (ws : List ByteArray) (v : StepV) : Code (rowG ws v).1 := by
  unfold rowG boundG
  split
  · split
    · exact exactG_code _ _
    · exact numG_code _ _
  · exact pieceG_code _ _
theorem opG_code (ws : List ByteArray) : Code (opG ws).2.1 := by
  cases ws with
  | nil => exact code82
  | cons w l =>
    unfold opG
    dsimp only
    repeat' split
    all_goals first | exact code0 | exact code81 | exact code80
theorem polF_code : ∀ (f : Nat) (ws : List ByteArray) (ops : List OpV), Code (polF f ws ops).2.1
  | 0, ws, ops => code0
  | f + 1, ws, ops => by
    unfold polF
    split
    · split
      · exact polF_code f _ _
      · exact opG_code _
    · exact code0
theorem idG_code (ws : List ByteArray) (v : StepV) : Code (idG ws v).1 := by
  unfold idG
  split
  · split
    · exact code0
    · exact numG_code _ _
  · exact code0
theorem conclG_code (ws : List ByteArray) (v : StepV) : Code (conclG ws v).1 := by
  cases ws with
  | nil => exact code82
  | cons w l =>
    unfold conclG
    dsimp only
    split
    · exact code0
    split
    · exact code0
    split
    · exact idG_code _ _
    split
    · unfold allG
      split
      · split
        · exact code82
        · exact idG_code _ _
      · exact numG_code _ _
    split
    · unfold boundsG
      split
      · unfold upG
        split
        · exact numG_code _ _
        · exact idG_code _ _
      · exact numG_code _ _
    · exact code80
theorem tabG_code {w : ByteArray} {f : List ByteArray → StepV → RetG} (h : tabG w = some f) (l : List ByteArray) (v : StepV) : Code (f l v).1 := by
  unfold tabG at h
  by_cases k1 : w = kHead
  · rw [if_pos k1] at h; cases h; exact exactG_code _ _
  rw [if_neg k1] at h
  by_cases k1 : w = kF
  · rw [if_pos k1] at h; cases h; exact numG_code _ _
  rw [if_neg k1] at h
  by_cases k1 : w = kPol
  · rw [if_pos k1] at h; cases h; exact polF_code _ _ _
  rw [if_neg k1] at h
  by_cases k1 : w = kRup
  · rw [if_pos k1] at h; cases h
    unfold rupG
    split
    · exact idsG_code _ _
    · exact rowG_code _ _
  rw [if_neg k1] at h
  by_cases k1 : w = kSoli
  · rw [if_pos k1] at h; cases h; exact litsG_code _ _
  rw [if_neg k1] at h
  by_cases k1 : w = kSolx
  · rw [if_pos k1] at h; cases h; exact litsG_code _ _
  rw [if_neg k1] at h
  by_cases k1 : w = kE
  · rw [if_pos k1] at h; cases h
    unfold sameG
    split
    · exact rowG_code _ _
    · exact numG_code _ _
  rw [if_neg k1] at h
  by_cases k1 : w = kDel
  · rw [if_pos k1] at h; cases h
    unfold delG
    split
    · split
      · exact idsG_code _ _
      · exact numG_code _ _
    · exact exactG_code _ _
  rw [if_neg k1] at h
  by_cases k1 : w = kStar
  · rw [if_pos k1] at h; cases h; exact code0
  rw [if_neg k1] at h
  by_cases k1 : w = kOut
  · rw [if_pos k1] at h; cases h; exact exactG_code _ _
  rw [if_neg k1] at h
  by_cases k1 : w = kConc
  · rw [if_pos k1] at h; cases h; exact conclG_code _ _
  rw [if_neg k1] at h
  by_cases k1 : w = kEnd
  · rw [if_pos k1] at h; cases h; exact exactG_code _ _
  rw [if_neg k1] at h
  cases h
theorem parseW_code (ws : List ByteArray) : Code (parseW ws).2 := by
  cases ws with
  | nil => exact code0
  | cons w l =>
    unfold parseW
    dsimp only
    cases h : tabG w with
    | none => exact code80
    | some f =>
      unfold finG
      dsimp only
      split
      · split
        · exact code0
        · exact code80
      · exact tabG_code h l zeroV
theorem parseP_code (s : ByteArray) : Code (parseP s).2 := by
  unfold parseP
  split
  · exact code0
  · exact parseW_code _
end Go.Proofs.YtdlgedpmbeafdaaGreatDoor.Aw

set_option maxRecDepth 100000
set_option linter.unusedVariables false
set_option linter.unusedSimpArgs false
namespace Go.Proofs.YtdlgedpmbeafdaaGreatDoor.Aw
open Go Go.RowKit
variable {G : Nat → Option (List AV)}

theorem linesOf_len (s : ByteArray) : (linesOf s).length ≤ s.size + 1 := by
  have := splitS_le s sepNL (by decide)
  unfold linesOf
  dsimp only
  split
  · rw [List.length_take]; omega
  · omega
theorem lawAlone_ok {m : Int} (hM : G 1 = some [.int .i64 m]) (hG : GS G) (hA : GAs G) (s : ByteArray) (S : St) :
    Triple P (C G) 3 [.str s] S fun o S' => o = .ret (.bool true) ∧ S' = S := by
  have hkn := fun S => known_ok (G := G) hG hA S
  refine triple_of_awp (hT G) hm Tryz.func3 rfl (by decide +kernel) rfl (by decide +kernel) (by show 1 ≤ _; decide +kernel) rfl ?_
  refine awp_seq2 fun K hK hQ => ?_
  conv => whnf
  refine hK _ _ ?_
  clear hK hQ K
  refine awp_seq2 fun K hK hQ => ?_
  conv => whnf
  refine (hkn _).mono ?_
  rintro o T ⟨rfl, rfl⟩
  conv => whnf
  refine hK _ _ ?_
  clear hK hQ K
  refine awp_seq2 fun K hK hQ => ?_
  conv => whnf
  refine split_of (fun hbig => ?_) (fun hbig => ?_)
  · conv => whnf
    refine hQ _ _ _ (by simp) ?_
    conv => whnf
    exact ⟨_, _, ⟨rfl, rfl⟩, St.le_refl _, AV.leS_refl _ _ _⟩
  have hs : s.size < 400001 := by have := of_decide_eq_false hbig; omega
  conv => whnf
  refine hK _ _ ?_
  clear hK hQ K
  have hrd := fun S => Read_ok (G := G) hM hG hA s hs S
  have hln := fun S => lines_ok (G := G) hM s hs S
  have hlen := linesOf_len s
  have hpl : ∀ x ∈ linesOf s, x.size ≤ 8999999 := fun x hx => Nat.le_trans (linesOf_size s x hx) (by omega)
  generalize linesOf s = ls at *
  have hno := readL_none ls []
  have hso := readL_some ls []
  rcases hr : readL ls [] with ⟨st, _ | ⟨k, c⟩⟩
  · rw [hr] at hrd hno
    clear hso hr
    obtain ⟨h1, h2⟩ := hno rfl
    dsimp only [readAV] at hrd h1
    rw [List.nil_append] at h1
    have hsl : st.length = ls.length := by rw [h1, List.length_map]
    refine awp_seq2 fun K hK hQ => ?_
    conv => whnf
    refine (hrd _).mono ?_
    rintro o T ⟨rfl, rfl⟩
    conv => whnf
    refine hK _ _ ?_
    clear hK hQ K
    refine awp_seq2 fun K hK hQ => ?_
    conv => whnf
    refine (told_nil _).mono ?_
    rintro o T ⟨rfl, rfl⟩
    conv => whnf
    intro b5 hb5
    conv => whnf
    refine ⟨_, _, St.upd_same _ _ _, ?_⟩
    conv => whnf
    rw [St.upd_upd]
    refine hK _ _ ?_
    clear hK hQ K
    refine awp_seq2 fun K hK hQ => ?_
    conv => whnf
    refine (hln _).mono ?_
    rintro o T2 ⟨rfl, rfl⟩
    conv => whnf
    refine hK _ _ ?_
    clear hK hQ K
    refine awp_seq2 fun K hK hQ => ?_
    refine awp_seq2 fun K1 hK1 hQ1 => ?_
    refine awp_region ?_
    refine aOps_cut 6 fun K' hK' => ?_
    conv => whnf
    refine ⟨_, _, St.upd_same _ _ _, ?_⟩
    conv => whnf
    refine hK' _ _ ?_
    clear hK' K'
    refine aOps_cut 6 fun K' hK' => ?_
    conv => whnf
    refine hK' _ _ ?_
    clear hK' K'
    refine aOps_cut 4 fun K' hK' => ?_
    conv => whnf
    refine ⟨_, _, St.upd_same _ _ _, ?_⟩
    conv => whnf
    refine hK' _ _ ?_
    clear hK' K'
    conv => whnf
    intro _
    conv => whnf
    intro _
    conv => whnf
    rw [show (((rowsT st).length : Int) != ((rowsS ls).length : Int)) = false from by simp [rowsT_len, rowsS_len, hsl]]
    conv => whnf
    refine hK1 _ _ ?_
    clear hK1 hQ1 K1
    conv => whnf
    refine hK _ _ ?_
    clear hK hQ K
    have hle0 : St.le T (T.upd b5 (.obj 29 [.int .i64 0, .int .i64 0])) := St.le_upd' (St.le_refl _) hb5 _
    refine awp_seq2 fun K hK hQ => ?_
    conv => whnf
    refine ⟨⟨Nat, fun i => [(0, .str s), (3, .sl .any 10 (rowsT st)), (5, .ref b5 0), (7, .sl .any 1 (rowsS ls)), (8, .int .i64 (i : Int))],
      fun i S' => S' b5 = some (.obj 29 [.int .i64 0, .int .i64 0]) ∧ St.le T S' ∧ i ≤ ls.length, fun i => ls.length - i⟩,
      ⟨0, ⟨rfl, ⟨rfl, rfl⟩, rfl, ⟨rfl, rfl⟩, rfl, trivial⟩, _, St.leW_refl _, St.upd_same _ _ _, hle0, by omega⟩, ?_⟩
    rintro (i : Nat) S1 ⟨q5, hle, hi⟩
    conv => whnf
    intro _
    conv => whnf
    refine split_of (fun hlt => ?_) (fun hlt => ?_)
    · have hlt : i < ls.length := by have := of_decide_eq_true hlt; rw [rowsS_len] at this; omega
      have hxs : ls[i].size ≤ 8999999 := hpl _ (List.getElem_mem hlt)
      have hp := fun S => Parse_line_ok (G := G) hG hA ls[i] hxs S
      have hc := h2 _ (List.getElem_mem hlt)
      have hw : LenStep (parseP ls[i]).1 := parseP_len _ hxs
      have hga : (rowsT st)[(i : Int).toNat]? = some (stepR (parseP ls[i]).1) := by simp [rowsT, h1, hlt]
      generalize hgi : ls[i] = x at *
      rw [hc] at hp
      generalize (parseP x).1 = v at *
      have hsm := fun S => Same_self (G := G) v hw.ops hw.row hw.lits hw.ids S
      conv => whnf
      refine ⟨[.str x], ⟨by omega, by rw [← hgi]; simp [rowsS, hlt]⟩, ?_⟩
      conv => whnf
      refine (hp _).mono ?_
      rintro o T ⟨rfl, rfl⟩
      conv => whnf
      intro b9 hb9
      conv => whnf
      refine ⟨_, _, St.upd_same _ _ _, ?_⟩
      conv => whnf
      rw [St.upd_upd]
      refine (num_ok 0 _).mono ?_
      rintro o T2 ⟨rfl, rfl⟩
      conv => whnf
      refine ⟨[9], (.free 0 (.free 1 (.free 2 (.free 3 (.free 4 (.free 5 (.free 6 (.free 7 (.free 8 (.free 9 (.free 10 (.free 11 .done)))))))))))), _, by decide +kernel, ?_, fun _ _ h => ⟨_, .inl rfl, h⟩⟩
      conv => whnf
      refine ⟨_, _, St.up hb9 q5, ?_⟩
      conv => whnf
      refine ⟨_, _, St.upd_same _ _ _, ?_⟩
      conv => whnf
      refine ⟨_, ⟨by omega, hga⟩, ?_⟩
      conv => whnf
      refine ⟨.bool true, (hsm _).mono ?_, ?_⟩
      · rintro o S' ⟨rfl, rfl⟩; exact ⟨rfl, rfl⟩
      have w1 : IntKind.i64.wrap ((i : Int) + 1) = ((i + 1 : Nat) : Int) := wrap_nat (by omega)
      conv => whnf
      exact ⟨i + 1, ⟨rfl, ⟨rfl, rfl⟩, rfl, ⟨rfl, rfl⟩, congrArg _ w1, trivial⟩, ⟨_, St.leW_refl _, St.up hb9 q5, St.le_upd' hle hb9 _, by omega⟩, by show ls.length - (i + 1) < ls.length - i; omega⟩
    · conv => whnf
      refine hK _ _ ?_
      clear hK hQ K
      conv => whnf
      refine ⟨_, _, q5, ?_⟩
      conv => whnf
      exact ⟨_, _, ⟨rfl, rfl⟩, hle, AV.leS_refl _ _ _⟩
  · rw [hr] at hrd hso
    clear hno hr
    obtain ⟨j, hj, hk, hz, hcj, hc0⟩ := hso k c rfl
    have hk : k = j + 1 := by simpa using hk
    have hc4 : c = 80 ∨ c = 81 ∨ c = 82 ∨ c = 83 := by
      rcases parseP_code ls[j] with h | h <;> omega
    dsimp only [readAV] at hrd
    subst hk
    clear hso hc0
    rcases hc4 with rfl | rfl | rfl | rfl
    all_goals
      refine awp_seq2 fun K hK hQ => ?_
      conv => whnf
      refine (hrd _).mono ?_
      rintro o T ⟨rfl, rfl⟩
      conv => whnf
      refine hK _ _ ?_
      clear hK hQ K
      refine awp_seq2 fun K hK hQ => ?_
      conv => whnf
      refine (told_fault _ _ (by decide) (by decide) _).mono ?_
      rintro o T ⟨rfl, rfl⟩
      conv => whnf
      intro b5 hb5
      conv => whnf
      refine ⟨_, _, St.upd_same _ _ _, ?_⟩
      conv => whnf
      rw [St.upd_upd]
      refine hK _ _ ?_
      clear hK hQ K
      refine awp_seq2 fun K hK hQ => ?_
      conv => whnf
      refine (hln _).mono ?_
      rintro o T2 ⟨rfl, rfl⟩
      conv => whnf
      refine hK _ _ ?_
      clear hK hQ K
      refine awp_seq2 fun K hK hQ => ?_
      refine awp_seq2 fun K1 hK1 hQ1 => ?_
      refine awp_region ?_
      refine aOps_cut 6 fun K' hK' => ?_
      conv => whnf
      refine ⟨_, _, St.upd_same _ _ _, ?_⟩
      conv => whnf
      refine hK' _ _ ?_
      clear hK' K'
      refine aOps_cut 6 fun K' hK' => ?_
      conv => whnf
      refine hK' _ _ ?_
      clear hK' K'
      refine aOps_cut 4 fun K' hK' => ?_
      conv => whnf
      refine ⟨_, _, St.upd_same _ _ _, ?_⟩
      conv => whnf
      refine hK' _ _ ?_
      clear hK' K'
      conv => whnf
      refine hK1 _ _ ?_
      clear hK1 hQ1 K1
      conv => whnf
      refine hK _ _ ?_
      clear hK hQ K
      generalize hS5 : T.upd b5 _ = S5
      have q50 := (congrFun hS5 b5).symm.trans (St.upd_same _ _ _)
      have hle0 : St.le T S5 := by rw [← hS5]; exact St.le_upd' (St.le_refl _) hb5 _
      refine awp_seq2 fun K hK hQ => ?_
      conv => whnf
      refine ⟨⟨Nat, fun i => [(0, .str s), (5, .ref b5 0), (7, .sl .any 1 (rowsS ls)), (8, .int .i64 (i : Int))],
        fun i S' => S' b5 = S5 b5 ∧ St.le T S' ∧ i ≤ j, fun i => ls.length - i⟩,
        ⟨0, ⟨rfl, rfl, ⟨rfl, rfl⟩, rfl, trivial⟩, _, St.leW_refl _, rfl, hle0, by omega⟩, ?_⟩
      rintro (i : Nat) S1 ⟨q5, hle, hi⟩
      rw [q50] at q5
      conv => whnf
      intro _
      conv => whnf
      refine split_of (fun hlt => ?_) (fun hlt => ?_)
      · have hlt : i < ls.length := by omega
        have hxs : ls[i].size ≤ 8999999 := hpl _ (List.getElem_mem hlt)
        have hp := fun S => Parse_line_ok (G := G) hG hA ls[i] hxs S
        have w1 : IntKind.i64.wrap ((i : Int) + 1) = ((i + 1 : Nat) : Int) := wrap_nat (by omega)
        rcases Nat.lt_or_ge i j with hij | hij
        · have hc := hz i hij
          generalize hgi : ls[i] = x at *
          rw [hc] at hp
          generalize (parseP x).1 = v at *
          conv => whnf
          refine ⟨[.str x], ⟨by omega, by rw [← hgi]; simp [rowsS, hlt]⟩, ?_⟩
          conv => whnf
          refine (hp _).mono ?_
          rintro o T ⟨rfl, rfl⟩
          conv => whnf
          intro b9 hb9
          conv => whnf
          refine ⟨_, _, St.upd_same _ _ _, ?_⟩
          conv => whnf
          rw [St.upd_upd]
          refine (num_ok 0 _).mono ?_
          rintro o T2 ⟨rfl, rfl⟩
          conv => whnf
          refine ⟨[9], (.free 0 (.free 1 (.free 2 (.free 3 (.free 4 (.free 5 (.free 6 (.free 7 (.free 8 (.free 9 (.free 10 (.free 11 .done)))))))))))), _, by decide +kernel, ?_, fun _ _ h => ⟨_, .inl rfl, h⟩⟩
          conv => whnf
          refine ⟨_, _, St.up hb9 q5, ?_⟩
          conv => whnf
          exact ⟨i + 1, ⟨rfl, rfl, ⟨rfl, rfl⟩, congrArg _ w1, trivial⟩, ⟨_, St.leW_refl _, by rw [q50]; exact St.up hb9 q5, St.le_upd' hle hb9 _, by omega⟩, by show ls.length - (i + 1) < ls.length - i; omega⟩
        · obtain rfl : i = j := by omega
          have hc := hcj
          generalize hgi : ls[i] = x at *
          rw [hc] at hp
          generalize (parseP x).1 = v at *
          conv => whnf
          refine ⟨[.str x], ⟨by omega, by rw [← hgi]; simp [rowsS, hlt]⟩, ?_⟩
          conv => whnf
          refine (hp _).mono ?_
          rintro o T ⟨rfl, rfl⟩
          conv => whnf
          intro b9 hb9
          conv => whnf
          refine ⟨_, _, St.upd_same _ _ _, ?_⟩
          conv => whnf
          rw [St.upd_upd]
          refine (num_ok _ _).mono ?_
          rintro o T2 ⟨rfl, rfl⟩
          conv => whnf
          refine ⟨[9], (.free 0 (.free 1 (.free 2 (.free 3 (.free 4 (.free 5 (.free 6 (.free 7 (.free 8 (.free 9 (.free 10 (.free 11 (.free 12 .done))))))))))))), _, by decide +kernel, ?_, fun _ _ h => ⟨_, .inl rfl, h⟩⟩
          conv => whnf
          refine ⟨_, _, St.up hb9 q5, ?_⟩
          conv => whnf
          rw [w1, show (((i + 1 : Nat) : Int) == ((i + 1 : Nat) : Int)) = true from beq_self_eq_true _]
          conv => whnf
          refine ⟨_, _, St.up hb9 q5, ?_⟩
          conv => whnf
          first
            | refine ⟨.int .i64 80, (num_ok 80 _).mono ?_, ?_⟩
            | refine ⟨.int .i64 81, (num_ok 81 _).mono ?_, ?_⟩
            | refine ⟨.int .i64 82, (num_ok 82 _).mono ?_, ?_⟩
            | refine ⟨.int .i64 83, (num_ok 83 _).mono ?_, ?_⟩
          · rintro o S' ⟨rfl, rfl⟩; exact ⟨rfl, rfl⟩
          conv => whnf
          refine hQ _ _ _ (by simp) ?_
          conv => whnf
          exact ⟨_, _, ⟨rfl, rfl⟩, St.le_upd' hle hb9 _, AV.leS_refl _ _ _⟩
      · have := of_decide_eq_false hlt; rw [rowsS_len] at this; omega
end Go.Proofs.YtdlgedpmbeafdaaGreatDoor.Aw

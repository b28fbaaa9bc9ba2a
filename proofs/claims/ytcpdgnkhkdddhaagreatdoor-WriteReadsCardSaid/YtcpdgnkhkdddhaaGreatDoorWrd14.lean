/-
  Plain: the lists of a parsed step are no longer than its line.
  Plain: what the four lines of known() parse to.
  hallmarklaw8.sameSteps at the same list twice.
  Plain: what Read's answer says of the lines; the errors' numbers.
  proof.Write, walked.
  Plain: what is written is read again, line by line.
  Plain: the words of a text that joins words by blanks.
  Plain: big.Int's Small tells no small number of a great one; prefixes of one byte.
  Plain: a literal that is read is written as it stood; the words that are read are of plain bytes.
  Plain: what a parsed line's parts say of its words.
  Plain: a parsed line's text is its words joined by blanks.
  Plain: a line that parses is written so that it parses again, to the same step.
  Package hallmarkroom: the count of steps; plain: what a count within its bound says of the steps.
-/
import Derived.Test.YtcpdgnkhkdddhaaGreatDoorWrd13
import Derived.Lib.SplitLaws
import Derived.Test.YtcpdgnkhkdddhaaGreatDoorWrd10
set_option maxRecDepth 100000
set_option linter.unusedVariables false
set_option linter.unusedSimpArgs false
namespace Go.Proofs.YtcpdgnkhkdddhaaGreatDoor.Aw
open Go Go.RowKit

theorem idsG_len : ∀ (ws ids : List ByteArray), (idsG ws ids).1.length ≤ ids.length + ws.length
  | [], ids => by simp [idsG]
  | w :: l, ids => by
    unfold idsG
    split
    · have := idsG_len l (ids ++ [w]); simp at this ⊢; omega
    · simp
theorem litsG_len : ∀ (ws : List ByteArray) (ls : List Int), (litsG ws ls).1.length ≤ ls.length + ws.length
  | [], ls => by simp [litsG]
  | w :: l, ls => by
    unfold litsG
    split
    · simp
    · have := litsG_len l (ls ++ [litV w.data.toList]); simp at this ⊢; omega
theorem pieceG_len : ∀ (ws : List ByteArray) (p : List (ByteArray × Int)), (pieceG ws p).1.length ≤ p.length + ws.length
  | [], p => by simp [pieceG]
  | [w], p => by
    unfold pieceG
    split
    · simp
    · split <;> simp
  | w :: x :: l, p => by
    unfold pieceG
    split
    · simp
    · split
      · split
        · simp
        · have := pieceG_len l (p ++ [(w, litV x.data.toList)]); simp at this ⊢; omega
      · simp
theorem polF_len : ∀ (f : Nat) (ws : List ByteArray) (ops : List OpV), (polF f ws ops).1.length ≤ ops.length + ws.length
  | 0, ws, ops => by simp [polF]
  | f + 1, ws, ops => by
    unfold polF
    split
    · split
      · rename_i h
        have h1 := opG_lt ws h
        have := polF_len f (opG ws).2.2 (ops ++ [(opG ws).1])
        simp at this ⊢; omega
      · simp
    · simp
/-- The lists' lengths are at most n. -/
def LenN (v : StepV) (n : Nat) : Prop := v.ops.length ≤ n ∧ v.pieces.length ≤ n ∧ v.lits.length ≤ n ∧ v.ids.length ≤ n
theorem rowG_len (ws : List ByteArray) (v : StepV) : (rowG ws v).2.2.ops = v.ops ∧ (rowG ws v).2.2.lits = v.lits ∧ (rowG ws v).2.2.pieces.length ≤ v.pieces.length + ws.length := by
  have := pieceG_len ws v.pieces
  unfold rowG boundG
  split
  · split <;> exact ⟨rfl, rfl, this⟩
  · exact ⟨rfl, rfl, this⟩
theorem LenN.zero (v : StepV) (n : Nat) (h1 : v.ops = []) (h2 : v.pieces = []) (h3 : v.lits = []) (h4 : v.ids.length ≤ n) : LenN v n := ⟨by rw [h1]; simp, by rw [h2]; simp, by rw [h3]; simp, h4⟩
theorem rupG_len (l : List ByteArray) : LenN (rupG l zeroV).2.2 (l.length + 2) := by
  obtain ⟨h1, h2, h3⟩ := rowG_len l { zeroV with kind := 4 }
  have h4 := rowG_ids l { zeroV with kind := 4 }
  have h5 := (rowG_suffix l { zeroV with kind := 4 }).length_le
  unfold rupG
  generalize rowG l { zeroV with kind := 4 } = r at *
  have e4 : r.2.2.ids.length = 0 := by rw [h4]; rfl
  have h3' : r.2.2.pieces.length ≤ l.length := by simpa [zeroV] using h3
  split
  · have h6 := idsG_len r.2.1 r.2.2.ids
    unfold withIds
    exact ⟨by show r.2.2.ops.length ≤ _; rw [h1]; simp [zeroV], by show r.2.2.pieces.length ≤ _; omega, by show r.2.2.lits.length ≤ _; rw [h2]; simp [zeroV], by show (idsG r.2.1 r.2.2.ids).1.length ≤ _; omega⟩
  · exact ⟨by rw [h1]; simp [zeroV], by omega, by rw [h2]; simp [zeroV], by omega⟩
theorem sameG_len (l : List ByteArray) : LenN (sameG l zeroV).2.2 (l.length + 2) := by
  have h0 := (numG_suffix 1 l).length_le
  unfold sameG
  split
  · obtain ⟨h1, h2, h3⟩ := rowG_len (numG 1 l).2.2 { zeroV with kind := 12, ids := [(numG 1 l).1] }
    have h4 := rowG_ids (numG 1 l).2.2 { zeroV with kind := 12, ids := [(numG 1 l).1] }
    refine ⟨by rw [h1]; simp [zeroV], ?_, by rw [h2]; simp [zeroV], by rw [h4]; simp⟩
    exact Nat.le_trans h3 (by show 0 + (numG 1 l).2.2.length ≤ _; omega)
  · exact LenN.zero _ _ rfl rfl rfl (by simp [zeroV])
theorem delG_len (l : List ByteArray) : LenN (delG l zeroV).2.2 (l.length + 2) := by
  have h0 := (numG_suffix 1 (exactG l idWords).1).length_le
  have h1 := (exactG_suffix l idWords).length_le
  unfold delG
  split
  · split
    · have h6 := idsG_len (numG 1 (exactG l idWords).1).2.2 [(numG 1 (exactG l idWords).1).1]
      unfold withIds
      refine LenN.zero _ _ rfl rfl rfl ?_
      show (idsG _ _).1.length ≤ _
      simp only [List.length_cons, List.length_nil] at h6
      omega
    · exact LenN.zero _ _ rfl rfl rfl (by simp [zeroV])
  · exact LenN.zero _ _ rfl rfl rfl (by simp [zeroV])
theorem idG_len (l : List ByteArray) (v : StepV) (h1 : v.ops = []) (h2 : v.pieces = []) (h3 : v.lits = []) (h4 : v.ids = []) (n : Nat) : LenN (idG l v).2.2 (n + 1) ∧ (idG l v).2.2.ops = [] ∧ (idG l v).2.2.pieces = [] ∧ (idG l v).2.2.lits = [] := by
  unfold idG
  split
  · split
    · exact ⟨LenN.zero _ _ h1 h2 h3 (by simp), h1, h2, h3⟩
    · exact ⟨LenN.zero _ _ h1 h2 h3 (by rw [h4]; simp), h1, h2, h3⟩
  · exact ⟨LenN.zero _ _ h1 h2 h3 (by rw [h4]; simp), h1, h2, h3⟩
theorem conclG_len (l : List ByteArray) : LenN (conclG l zeroV).2.2 (l.length + 2) := by
  have z : ∀ (v : StepV), v.ops = [] → v.pieces = [] → v.lits = [] → v.ids = [] → LenN v (l.length + 2) := fun v h1 h2 h3 h4 => LenN.zero _ _ h1 h2 h3 (by rw [h4]; simp)
  cases l with
  | nil => exact z _ rfl rfl rfl rfl
  | cons w l =>
    unfold conclG
    dsimp only
    split
    · exact z _ rfl rfl rfl rfl
    split
    · exact z _ rfl rfl rfl rfl
    split
    · exact (idG_len _ _ rfl rfl rfl rfl _).1
    split
    · unfold allG
      split
      · split
        · exact z _ rfl rfl rfl rfl
        · exact (idG_len _ _ rfl rfl rfl rfl _).1
      · exact z _ rfl rfl rfl rfl
    split
    · unfold boundsG
      split
      · have h := idG_len (numG (-1) l).2.2 { zeroV with kind := 9, n6 := 5, s7 := (numG (-1) l).1 } rfl rfl rfl rfl ((w :: l).length + 1)
        unfold upG
        split
        · exact h.1
        · exact h.1
      · exact z _ rfl rfl rfl rfl
    · exact z _ rfl rfl rfl rfl
theorem tabG_len {w : ByteArray} {f : List ByteArray → StepV → RetG} (h : tabG w = some f) (l : List ByteArray) : LenN (f l zeroV).2.2 (l.length + 2) := by
  have hz : ∀ (v : StepV), v.ops = [] → v.pieces = [] → v.lits = [] → v.ids = [] → LenN v (l.length + 2) := fun v h1 h2 h3 h4 => LenN.zero _ _ h1 h2 h3 (by rw [h4]; simp)
  have hp := polF_len (l.length + 2) l []
  have hs := litsG_len l []
  simp only [List.length_nil, Nat.zero_add] at hp hs
  unfold tabG at h
  by_cases k1 : w = kHead
  · rw [if_pos k1] at h; cases h; exact hz _ rfl rfl rfl rfl
  rw [if_neg k1] at h
  by_cases k1 : w = kF
  · rw [if_pos k1] at h; cases h; exact hz _ rfl rfl rfl rfl
  rw [if_neg k1] at h
  by_cases k1 : w = kPol
  · rw [if_pos k1] at h; cases h; exact ⟨by show (polF (l.length + 2) l []).1.length ≤ _; omega, by show (0 : Nat) ≤ _; omega, by show (0 : Nat) ≤ _; omega, by show (0 : Nat) ≤ _; omega⟩
  rw [if_neg k1] at h
  by_cases k1 : w = kRup
  · rw [if_pos k1] at h; cases h; exact rupG_len l
  rw [if_neg k1] at h
  by_cases k1 : w = kSoli
  · rw [if_pos k1] at h; cases h; exact ⟨by show (0 : Nat) ≤ _; omega, by show (0 : Nat) ≤ _; omega, by show (litsG l []).1.length ≤ _; omega, by show (0 : Nat) ≤ _; omega⟩
  rw [if_neg k1] at h
  by_cases k1 : w = kSolx
  · rw [if_pos k1] at h; cases h; exact ⟨by show (0 : Nat) ≤ _; omega, by show (0 : Nat) ≤ _; omega, by show (litsG l []).1.length ≤ _; omega, by show (0 : Nat) ≤ _; omega⟩
  rw [if_neg k1] at h
  by_cases k1 : w = kE
  · rw [if_pos k1] at h; cases h; exact sameG_len l
  rw [if_neg k1] at h
  by_cases k1 : w = kDel
  · rw [if_pos k1] at h; cases h; exact delG_len l
  rw [if_neg k1] at h
  by_cases k1 : w = kStar
  · rw [if_pos k1] at h; cases h; exact hz _ rfl rfl rfl rfl
  rw [if_neg k1] at h
  by_cases k1 : w = kOut
  · rw [if_pos k1] at h; cases h; exact hz _ rfl rfl rfl rfl
  rw [if_neg k1] at h
  by_cases k1 : w = kConc
  · rw [if_pos k1] at h; cases h; exact conclG_len l
  rw [if_neg k1] at h
  by_cases k1 : w = kEnd
  · rw [if_pos k1] at h; cases h; exact hz _ rfl rfl rfl rfl
  rw [if_neg k1] at h
  cases h
theorem parseW_len (ws : List ByteArray) : LenN (parseW ws).1 (ws.length + 2) := by
  cases ws with
  | nil => exact LenN.zero _ _ rfl rfl rfl (by simp [parseW, zeroV])
  | cons w l =>
    unfold parseW
    dsimp only
    cases h : tabG w with
    | none => exact LenN.zero _ _ rfl rfl rfl (by simp [zeroV])
    | some f =>
      have := tabG_len h l
      unfold finG
      exact ⟨Nat.le_trans this.1 (by simp), Nat.le_trans this.2.1 (by simp), Nat.le_trans this.2.2.1 (by simp), Nat.le_trans this.2.2.2 (by simp)⟩
theorem parseP_len (s : ByteArray) (hs : s.size ≤ 8999999) : LenStep (parseP s).1 := by
  unfold parseP
  have h := parseW_len (wordsL s)
  have hl := wordsL_len s
  split
  · exact ⟨Nat.le_trans h.1 (by omega), Nat.le_trans h.2.1 (by omega), Nat.le_trans h.2.2.1 (by omega), Nat.le_trans h.2.2.2 (by omega)⟩
  · exact ⟨by show (0 : Nat) ≤ _; omega, by show (0 : Nat) ≤ _; omega, by show (0 : Nat) ≤ _; omega, by show (0 : Nat) ≤ _; omega⟩
end Go.Proofs.YtcpdgnkhkdddhaaGreatDoor.Aw

set_option maxRecDepth 100000
set_option linter.unusedVariables false
namespace Go.Proofs.YtcpdgnkhkdddhaaGreatDoor.Aw
open Go Go.RowKit

def kn1 : ByteArray := (⟨#[112, 111, 108, 32, 51, 32, 52, 32, 43, 32, 50, 32, 100, 32, 120, 53, 32, 119, 32, 115, 32, 126, 120, 49, 32, 51, 32, 42, 32, 43]⟩ : ByteArray)
def kn2 : ByteArray := (⟨#[99, 111, 110, 99, 108, 117, 115, 105, 111, 110, 32, 66, 79, 85, 78, 68, 83, 32, 51, 32, 58, 32, 49, 55, 32, 51]⟩ : ByteArray)
def kn3 : ByteArray := (⟨#[112, 111, 108, 32, 51, 32, 52, 32, 45]⟩ : ByteArray)
def kn4 : ByteArray := (⟨#[114, 117, 112, 32, 49, 32, 120, 49, 32, 62, 61, 32, 49]⟩ : ByteArray)
def kn5 : ByteArray := (⟨#[114, 117, 112, 32, 50, 32, 120, 49, 32, 45, 51, 32, 126, 120, 50, 32, 62, 61, 32, 48, 32, 59]⟩ : ByteArray)
theorem kn3_parse : (parseP kn3).2 = 80 := by decide +kernel
theorem kn4_parse : (parseP kn4).2 = 82 := by decide +kernel
theorem kn1_parse : (parseP kn1).2 = 0 ∧ (parseP kn1).1.ops.length = 9 ∧ (parseP kn1).1.ops[4]? = some (7, ByteArray.empty, 5) ∧ (parseP kn1).1.ops[6]? = some (2, ByteArray.empty, -1) := by decide +kernel
theorem kn2_parse : (parseP kn2).2 = 0 ∧ (parseP kn2).1.s7 = ⟨#[51]⟩ ∧ (parseP kn2).1.s8 = ⟨#[51]⟩ ∧ (parseP kn2).1.ids.length = 1 := by decide +kernel
def knStep : StepV := ⟨4, ByteArray.empty, [], [(⟨#[50]⟩, 1), (⟨#[45, 51]⟩, -2)], ⟨#[48]⟩, [], [], 0, ByteArray.empty, ByteArray.empty⟩
theorem kn5_print : printP knStep = (kn5, 0) := by decide +kernel
end Go.Proofs.YtcpdgnkhkdddhaaGreatDoor.Aw

set_option maxRecDepth 100000
set_option linter.unusedVariables false
set_option linter.unusedSimpArgs false
namespace Go.Proofs.YtcpdgnkhkdddhaaGreatDoor.Aw
open Go Go.RowKit
variable {G : Nat → Option (List AV)}

theorem sameSteps_self (a : List StepV) (hlen : a.length ≤ 1000000000) (hs : ∀ v ∈ a, LenStep v) (S : St) : Triple P (C G) 21 [.sl .any 10 (rowsT a), .sl .any 10 (rowsT a)] S fun o S' => o = .ret (.bool true) ∧ S' = S := by
  refine triple_of_awp (hT G) hm Tryz.func21 rfl (by decide +kernel) rfl (by decide +kernel) (by show 2 ≤ _; decide +kernel) rfl ?_
  conv => whnf
  intro _
  conv => whnf
  intro _
  conv => whnf
  refine split_of (fun hne => by simp at hne) (fun hne => ?_)
  conv => whnf
  refine ⟨⟨Nat, fun i => [(0, .sl .any 10 (rowsT a)), (1, .sl .any 10 (rowsT a)), (5, .int .i64 (i : Int))], fun i S' => S' = S ∧ i ≤ a.length, fun i => a.length - i⟩,
    ⟨0, ⟨⟨rfl, rfl⟩, ⟨rfl, rfl⟩, rfl, trivial⟩, _, St.leW_refl _, rfl, by omega⟩, ?_⟩
  rintro (i : Nat) S' ⟨rfl, hi⟩
  conv => whnf
  intro _
  conv => whnf
  refine split_of (fun hlt => ?_) (fun hlt => ?_)
  · have hlt : i < a.length := by have := of_decide_eq_true hlt; rw [rowsT_len] at this; omega
    have ga : (rowsT a)[(i : Int).toNat]? = some (stepR a[i]) := by simp [rowsT, hlt]
    have hl := hs _ (List.getElem_mem hlt)
    have hsm := fun S => Same_self (G := G) a[i] hl.ops hl.row hl.lits hl.ids S
    generalize a[i] = v at *
    conv => whnf
    refine ⟨[8], (.free 0 (.free 1 (.free 2 (.free 3 (.free 4 (.free 5 (.free 6 (.free 7 (.free 8 (.free 9 .done)))))))))), _, by decide +kernel, ?_, fun _ _ h => ⟨_, .inl rfl, h⟩⟩
    conv => whnf
    refine ⟨_, ⟨by omega, ga⟩, ?_⟩
    conv => whnf
    refine ⟨_, ⟨by omega, ga⟩, ?_⟩
    conv => whnf
    refine ⟨.bool true, (hsm _).mono ?_, ?_⟩
    · rintro o S' ⟨rfl, rfl⟩; exact ⟨rfl, rfl⟩
    have w1 : IntKind.i64.wrap ((i : Int) + 1) = ((i + 1 : Nat) : Int) := wrap_nat (by omega)
    conv => whnf
    exact ⟨i + 1, ⟨⟨rfl, rfl⟩, ⟨rfl, rfl⟩, congrArg _ w1, trivial⟩, ⟨_, St.leW_refl _, rfl, by omega⟩, by show a.length - (i + 1) < a.length - i; omega⟩
  · conv => whnf
    exact ⟨_, _, ⟨rfl, rfl⟩, St.le_refl _, AV.leS_refl _ _ _⟩
end Go.Proofs.YtcpdgnkhkdddhaaGreatDoor.Aw

set_option maxRecDepth 100000
set_option linter.unusedVariables false
set_option linter.unusedSimpArgs false
namespace Go.Proofs.YtcpdgnkhkdddhaaGreatDoor.Aw
open Go Go.RowKit

theorem readL_none : ∀ (ls : List ByteArray) (acc : List StepV), (readL ls acc).2 = none → (readL ls acc).1 = acc ++ ls.map (fun s => (parseP s).1) ∧ ∀ s ∈ ls, (parseP s).2 = 0
  | [], acc, _ => by simp [readL]
  | s :: l, acc, h => by
    unfold readL at h ⊢
    by_cases he : (parseP s).2 = 0
    · rw [if_pos he] at h ⊢
      obtain ⟨h1, h2⟩ := readL_none l _ h
      refine ⟨by rw [h1]; simp, fun x hx => ?_⟩
      rcases List.mem_cons.1 hx with rfl | hx
      · exact he
      · exact h2 x hx
    · rw [if_neg he] at h; cases h
theorem readL_some : ∀ (ls : List ByteArray) (acc : List StepV) (k : Nat) (c : Int), (readL ls acc).2 = some (k, c) → ∃ j, ∃ h : j < ls.length, k = acc.length + j + 1 ∧ (∀ i (hi : i < j), (parseP (ls[i]'(by omega))).2 = 0) ∧ (parseP ls[j]).2 = c ∧ c ≠ 0
  | [], acc, k, c, h => by simp [readL] at h
  | s :: l, acc, k, c, h => by
    unfold readL at h
    by_cases he : (parseP s).2 = 0
    · rw [if_pos he] at h
      obtain ⟨j, hj, h1, h2, h3, h4⟩ := readL_some l _ k c h
      refine ⟨j + 1, by simp; omega, by simp at h1; omega, fun i hi => ?_, h3, h4⟩
      cases i with
      | zero => exact he
      | succ i => exact h2 i (by omega)
    · rw [if_neg he] at h
      simp only [Option.some.injEq, Prod.mk.injEq] at h
      exact ⟨0, by simp, by simp [← h.1], fun i hi => by omega, h.2, by rw [← h.2]; exact he⟩
/-- An error's number. -/
def Code (e : Int) : Prop := e = 0 ∨ (80 ≤ e ∧ e ≤ 83)
theorem code0 : Code 0 := .inl rfl
theorem code80 : Code 80 := .inr ⟨by decide, by decide⟩
theorem code81 : Code 81 := .inr ⟨by decide, by decide⟩
theorem code82 : Code 82 := .inr ⟨by decide, by decide⟩
theorem exactG_code : ∀ (l xs : List ByteArray), Code (exactG l xs).2
  | l, [] => by cases l <;> exact code0
  | [], _ :: _ => code82
  | w :: l, x :: xs => by
    unfold exactG
    split
    · exact exactG_code l xs
    · exact code80
theorem numG_code (low : Int) (l : List ByteArray) : Code (numG low l).2.1 := by
  cases l with
  | nil => exact code82
  | cons w l =>
    simp only [numG]
    split
    · exact code0
    · exact code81
theorem idsG_code : ∀ (ws ids : List ByteArray), Code (idsG ws ids).2.1
  | [], ids => code0
  | w :: l, ids => by
    unfold idsG
    split
    · exact idsG_code l _
    · exact code81
theorem litsG_code : ∀ (ws : List ByteArray) (ls : List Int), Code (litsG ws ls).2.1
  | [], ls => code0
  | w :: l, ls => by
    unfold litsG
    split
    · exact code81
    · exact litsG_code l _
theorem pieceG_code : ∀ (ws : List ByteArray) (p : List (ByteArray × Int)), Code (pieceG ws p).2.1
  | [], p => code82
  | [w], p => by
    unfold pieceG
    split
    · exact code0
    · split
      · exact code82
      · exact code81
  | w :: x :: l, p => by
    unfold pieceG
    split
    · exact code0
    · split
      · split
        · exact code81
        · exact pieceG_code l _
      · exact code81
theorem rowG_code (ws : List ByteArray) (v : StepV) : Code (rowG ws v).1 := by
  unfold rowG boundG
  split
  · split
    · exact exactG_code _ _
    · exact numG_code _ _
  · exact pieceG_code _ _
theorem opG_code (ws : List ByteArray) : Code (opG ws).2.1 := by
  cases ws with
  | nil => exact code82
  | cons w l =>
    unfold opG
    dsimp only
    repeat' split
    all_goals first | exact code0 | exact code81 | exact code80
theorem polF_code : ∀ (f : Nat) (ws : List ByteArray) (ops : List OpV), Code (polF f ws ops).2.1
  | 0, ws, ops => code0
  | f + 1, ws, ops => by
    unfold polF
    split
    · split
      · exact polF_code f _ _
      · exact opG_code _
    · exact code0
theorem idG_code (ws : List ByteArray) (v : StepV) : Code (idG ws v).1 := by
  unfold idG
  split
  · split
    · exact code0
    · exact numG_code _ _
  · exact code0
theorem conclG_code (ws : List ByteArray) (v : StepV) : Code (conclG ws v).1 := by
  cases ws with
  | nil => exact code82
  | cons w l =>
    unfold conclG
    dsimp only
    split
    · exact code0
    split
    · exact code0
    split
    · exact idG_code _ _
    split
    · unfold allG
      split
      · split
        · exact code82
        · exact idG_code _ _
      · exact numG_code _ _
    split
    · unfold boundsG
      split
      · unfold upG
        split
        · exact numG_code _ _
        · exact idG_code _ _
      · exact numG_code _ _
    · exact code80
theorem tabG_code {w : ByteArray} {f : List ByteArray → StepV → RetG} (h : tabG w = some f) (l : List ByteArray) (v : StepV) : Code (f l v).1 := by
  unfold tabG at h
  by_cases k1 : w = kHead
  · rw [if_pos k1] at h; cases h; exact exactG_code _ _
  rw [if_neg k1] at h
  by_cases k1 : w = kF
  · rw [if_pos k1] at h; cases h; exact numG_code _ _
  rw [if_neg k1] at h
  by_cases k1 : w = kPol
  · rw [if_pos k1] at h; cases h; exact polF_code _ _ _
  rw [if_neg k1] at h
  by_cases k1 : w = kRup
  · rw [if_pos k1] at h; cases h
    unfold rupG
    split
    · exact idsG_code _ _
    · exact rowG_code _ _
  rw [if_neg k1] at h
  by_cases k1 : w = kSoli
  · rw [if_pos k1] at h; cases h; exact litsG_code _ _
  rw [if_neg k1] at h
  by_cases k1 : w = kSolx
  · rw [if_pos k1] at h; cases h; exact litsG_code _ _
  rw [if_neg k1] at h
  by_cases k1 : w = kE
  · rw [if_pos k1] at h; cases h
    unfold sameG
    split
    · exact rowG_code _ _
    · exact numG_code _ _
  rw [if_neg k1] at h
  by_cases k1 : w = kDel
  · rw [if_pos k1] at h; cases h
    unfold delG
    split
    · split
      · exact idsG_code _ _
      · exact numG_code _ _
    · exact exactG_code _ _
  rw [if_neg k1] at h
  by_cases k1 : w = kStar
  · rw [if_pos k1] at h; cases h; exact code0
  rw [if_neg k1] at h
  by_cases k1 : w = kOut
  · rw [if_pos k1] at h; cases h; exact exactG_code _ _
  rw [if_neg k1] at h
  by_cases k1 : w = kConc
  · rw [if_pos k1] at h; cases h; exact conclG_code _ _
  rw [if_neg k1] at h
  by_cases k1 : w = kEnd
  · rw [if_pos k1] at h; cases h; exact exactG_code _ _
  rw [if_neg k1] at h
  cases h
theorem parseW_code (ws : List ByteArray) : Code (parseW ws).2 := by
  cases ws with
  | nil => exact code0
  | cons w l =>
    unfold parseW
    dsimp only
    cases h : tabG w with
    | none => exact code80
    | some f =>
      unfold finG
      dsimp only
      split
      · split
        · exact code0
        · exact code80
      · exact tabG_code h l zeroV
theorem parseP_code (s : ByteArray) : Code (parseP s).2 := by
  unfold parseP
  split
  · exact code0
  · exact parseW_code _
end Go.Proofs.YtcpdgnkhkdddhaaGreatDoor.Aw

set_option maxRecDepth 100000
set_option linter.unusedVariables false
set_option linter.unusedSimpArgs false
namespace Go.Proofs.YtcpdgnkhkdddhaaGreatDoor.Aw
open Go Go.RowKit
variable {G : Nat → Option (List AV)}

/-- Step by step: the text, or the fault's step and number. -/
def writeL : List StepV → List UInt8 → Nat → List UInt8 × Option (Nat × Int)
  | [], acc, _ => (acc, none)
  | v :: l, acc, i => if (printP v).2 = 0 then writeL l (acc ++ ((printP v).1 ++ (⟨#[10]⟩ : ByteArray)).data.toList) (i + 1) else ([], some (i + 1, (printP v).2))
def writeAV (r : List UInt8 × Option (Nat × Int)) : AV := match r.2 with
  | none => .tu [.str ⟨r.1.toArray⟩, .nili]
  | some (i, c) => .tu [.str ByteArray.empty, .ifc 72 (.imm [.int .i64 2, .int .i64 (i : Int), .int .i64 c])]
theorem printP_size (v : StepV) : (printP v).1.size ≤ (textT v).size := by
  unfold printP
  split
  · exact Nat.le_refl _
  · exact Nat.zero_le _
theorem Write_ok (hG : GS G) (hA : GAs G) (l : List StepV) (hl : l.length ≤ 1000000) (hok : ∀ v ∈ l, OkStep v ∧ (textT v).size ≤ 8999999) (S : St) :
    Triple P (C G) 19 [.sl .any 10 (rowsT l)] S fun o S' => o = .ret (writeAV (writeL l [] 0)) ∧ S' = S := by
  refine triple_of_awp (hT G) hm Tryz.func19 rfl (by decide +kernel) rfl (by decide +kernel) (by show 1 ≤ _; decide +kernel) rfl ?_
  refine awp_seq2 fun K hK hQ => ?_
  conv => whnf
  refine hK _ _ ?_
  clear hK hQ K
  refine awp_seq2 fun K hK hQ => ?_
  conv => whnf
  intro b4 hb4
  conv => whnf
  refine hK _ _ ?_
  clear hK hQ K
  have hnew := BldW.new hb4
  refine awp_seq2 fun K hK hQ => ?_
  conv => whnf
  intro _
  conv => whnf
  refine ⟨⟨Nat × List UInt8, fun x => [(4, .ref b4 0), (9, .sl .any 10 (rowsT l)), (10, .int .i64 (l.length : Int)), (11, .int .i64 (x.1 : Int))],
    fun x S1 => (∃ T', St.le S T' ∧ BldW T' S1 b4 x.2) ∧ x.1 ≤ l.length ∧ x.2.length ≤ x.1 * 9000000 ∧ writeL (l.drop x.1) x.2 x.1 = writeL l [] 0, fun x => l.length - x.1⟩,
    ⟨(0, []), ⟨rfl, ⟨rfl, rfl⟩, congrArg (AV.int .i64) (by rw [rowsT_len]), rfl, trivial⟩, _, St.leW_refl _, ⟨S, St.le_refl _, hnew⟩, by omega, by simp, rfl⟩, ?_⟩
  rintro ⟨i, acc⟩ S1 ⟨⟨T', hT, hB⟩, h2, h3, h4⟩
  dsimp only at h2 h3 h4 hB
  conv => whnf
  refine split_of (fun hlt => ?_) (fun hlt => ?_)
  · have hlt : i < l.length := by have := of_decide_eq_true hlt; omega
    have hd : l.drop i = l[i] :: l.drop (i + 1) := List.drop_eq_getElem_cons hlt
    rw [hd] at h4
    obtain ⟨ho, hsz⟩ := hok _ (List.getElem_mem hlt)
    have hpr := fun S => Print_ok (G := G) hG hA l[i] ho hsz (parseP_len _ hsz) S
    have hps := printP_size l[i]
    have ga : (rowsT l)[(i : Int).toNat]? = some (stepR l[i]) := by simp [rowsT, hlt]
    simp only [writeL] at h4
    generalize hgi : l[i] = v at *
    generalize (printP v).1 = tx at *
    generalize (printP v).2 = e at *
    conv => whnf
    refine ⟨_, ⟨by omega, ga⟩, ?_⟩
    conv => whnf
    intro b6 hb6
    conv => whnf
    refine ⟨_, _, St.upd_same _ _ _, ?_⟩
    conv => whnf
    rw [St.upd_upd]
    refine ⟨_, _, St.upd_same _ _ _, ?_⟩
    conv => whnf
    refine (hpr _).mono ?_
    rintro o T ⟨rfl, rfl⟩
    have f6 : T' b6 = none := St.le_none hB.1 hb6
    have hT6 : St.le S (T'.upd b6 (.obj 54 (stepR v))) := St.le_upd' hT f6 _
    have hB6 := hB.over (.inl hb6) (.obj 54 (stepR v))
    have w1 : IntKind.i64.wrap ((i : Int) + 1) = ((i + 1 : Nat) : Int) := wrap_nat (by omega)
    conv => whnf
    refine split_of (fun he => ?_) (fun he => ?_)
    · have he : ¬ e = 0 := by simpa using he
      rw [if_neg he] at h4
      rw [← h4] at hQ
      conv => whnf
      intro b8 hb8
      conv => whnf
      refine hQ _ _ _ (by simp) ?_
      conv => whnf
      rw [w1]
      have hle : St.le S ((S1.upd b6 (.obj 54 (stepR v))).upd b8 (.obj 75 [.int .i64 2, .int .i64 ((i + 1 : Nat) : Int), .int .i64 e])) := St.le_trans hT6 (St.le_trans hB6.1 (St.le_upd' (St.le_refl _) hb8 _))
      refine ⟨_, _, ⟨rfl, rfl⟩, hle, ?_⟩
      exact ⟨rfl, ⟨rfl, St.le_none (St.le_trans hT6 hB6.1) hb8, _, _, St.upd_same _ _ _, rfl⟩, rfl⟩
    · have he : e = 0 := by simpa using he
      rw [if_pos he] at h4
      clear hK hQ
      conv => whnf
      refine ⟨by show tx.size + 1 ≤ _; omega, ?_⟩
      conv => whnf
      refine (hB6.write (tx ++ (⟨#[10]⟩ : ByteArray)) ?_).mono ?_
      · rw [ba_size_append]; show _ + (_ + 1) ≤ _; omega
      rintro o S' ⟨rfl, hB'⟩
      conv => whnf
      refine ⟨(i + 1, acc ++ (tx ++ (⟨#[10]⟩ : ByteArray)).data.toList), ⟨rfl, ⟨rfl, rfl⟩, rfl, congrArg _ w1, trivial⟩, ⟨_, St.leW_refl _, ⟨_, hT6, hB'⟩, by show i + 1 ≤ _; omega, ?_, h4⟩, by show l.length - (i + 1) < l.length - i; omega⟩
      show (acc ++ (tx ++ (⟨#[10]⟩ : ByteArray)).data.toList).length ≤ (i + 1) * 9000000
      have e1 : (tx ++ (⟨#[10]⟩ : ByteArray)).data.toList.length = tx.size + 1 := by
        simp
      rw [List.length_append, e1]
      omega
  · have hlt : i = l.length := by have := of_decide_eq_false hlt; omega
    rw [hlt, List.drop_length] at h4
    rw [← h4] at hK
    conv => whnf
    refine hK _ _ ?_
    clear hK hQ K
    conv => whnf
    refine hB.string.mono ?_
    rintro o S' ⟨rfl, hS'⟩
    conv => whnf
    exact ⟨_, _, ⟨rfl, rfl⟩, St.le_trans hT hS', AV.leS_refl _ _ _⟩
end Go.Proofs.YtcpdgnkhkdddhaaGreatDoor.Aw

set_option maxRecDepth 100000
set_option linter.unusedVariables false
set_option linter.unusedSimpArgs false
namespace Go.Proofs.YtcpdgnkhkdddhaaGreatDoor.Aw
open Go Go.RowKit

def nlL : List UInt8 → List (List UInt8)
  | [] => [[]]
  | c :: r => if c = 10 then [] :: nlL r else match nlL r with | [] => [[c]] | x :: xs => (c :: x) :: xs
theorem nlL_ne : ∀ s, nlL s ≠ []
  | [] => by simp [nlL]
  | c :: r => by
    unfold nlL
    split
    · simp
    · split <;> simp
theorem splitK_nl : ∀ (s : List UInt8) (k : Nat), s.count 10 ≤ k → Lib.splitK [10] 0 k s = nlL s
  | [], k, _ => by
    cases k with
    | zero => rfl
    | succ k => simp [Lib.splitK, Lib.index_one, Lib.indexByte, nlL]
  | c :: r, k, h => by
    by_cases hc : c = 10
    · subst hc
      cases k with
      | zero => simp at h
      | succ k =>
        have ih := splitK_nl r k (by simp at h; omega)
        simp [Lib.splitK, Lib.index_one, Lib.indexByte, nlL, ih]
    · have hcnt : (c :: r).count 10 = r.count 10 := by rw [List.count_cons_of_ne hc]
      rw [hcnt] at h
      have ih := splitK_nl r k h
      unfold nlL
      rw [if_neg hc, ← ih]
      cases k with
      | zero => rfl
      | succ k =>
        have hge := Lib.indexByte_ge r 10
        by_cases hi : Lib.indexByte r 10 = -1
        · simp [Lib.splitK, Lib.index_one, Lib.indexByte, hc, hi]
        · have e1 : (Lib.indexByte r 10 + 1 == -1) = false := by simp; omega
          have e2 : (Lib.indexByte r 10 + 1).toNat = (Lib.indexByte r 10).toNat + 1 := by omega
          simp [Lib.splitK, Lib.index_one, Lib.indexByte, hc, hi, e1, e2]
def trimL (l : List (List UInt8)) : List (List UInt8) := if l[l.length - 1]? = some [] then l.take (l.length - 1) else l
theorem bytes_inj {a b : ByteArray} (h : a.data.toList = b.data.toList) : a = b := by
  obtain ⟨⟨a⟩⟩ := a
  obtain ⟨⟨b⟩⟩ := b
  simp at h
  rw [h]
theorem maps_inj : ∀ {a b : List ByteArray}, a.map (·.data.toList) = b.map (·.data.toList) → a = b
  | [], [], _ => rfl
  | [], _ :: _, h => by simp at h
  | _ :: _, [], h => by simp at h
  | x :: a, y :: b, h => by
    simp only [List.map_cons, List.cons.injEq] at h
    rw [bytes_inj h.1, maps_inj h.2]
theorem linesOf_data (s : ByteArray) : (linesOf s).map (·.data.toList) = trimL (nlL s.data.toList) := by
  have hs : (splitS s sepNL).map (·.data.toList) = nlL s.data.toList := by
    rw [splitS, Lib.splitB_data]
    exact splitK_nl _ _ (by rw [← Lib.count_one]; exact Nat.le_refl _)
  rw [← hs]
  have hl : ((splitS s sepNL).map (·.data.toList)).length = (splitS s sepNL).length := by simp
  unfold linesOf trimL
  simp only [hl, List.getElem?_map]
  cases hx : (splitS s sepNL)[(splitS s sepNL).length - 1]? with
  | none => simp
  | some x =>
    by_cases he : x = ⟨#[]⟩
    · subst he
      simp
    · have he' : x.data.toList ≠ [] := fun e => he (bytes_inj (by rw [e]))
      simp [he, he']
theorem nlL_cons (r : List UInt8) : ∀ (x : List UInt8), (∀ c ∈ x, c ≠ 10) → nlL (x ++ 10 :: r) = x :: nlL r
  | [], _ => by simp [nlL]
  | c :: x, h => by
    have ih := nlL_cons r x fun d hd => h d (by simp [hd])
    have hc := h c (by simp)
    have e : nlL (c :: (x ++ 10 :: r)) = match nlL (x ++ 10 :: r) with | [] => [[c]] | y :: ys => (c :: y) :: ys := by
      rw [nlL, if_neg hc]
    rw [List.cons_append, e, ih]
theorem nlL_join : ∀ (ls : List (List UInt8)), (∀ x ∈ ls, ∀ c ∈ x, c ≠ 10) → nlL (ls.flatMap fun x => x ++ [10]) = ls ++ [[]]
  | [], _ => rfl
  | x :: ls, h => by
    have ih := nlL_join ls fun y hy => h y (by simp [hy])
    rw [List.flatMap_cons, List.append_assoc, List.singleton_append, nlL_cons _ x (h x (by simp)), ih]
    rfl
theorem trimL_snoc (ls : List (List UInt8)) : trimL (ls ++ [[]]) = ls := by
  unfold trimL
  simp
theorem hasNL_no {s : ByteArray} (h : hasNL s = false) : ∀ c ∈ s.data.toList, c ≠ 10 := by
  unfold hasNL at h
  have h := of_decide_eq_false h
  generalize s.data.toList = l at *
  induction l with
  | nil => intro c hc; cases hc
  | cons d l ih =>
    have hge := Lib.indexByte_ge l 10
    by_cases hd : d = 10
    · subst hd; simp [Lib.indexByte] at h
    · intro c hc
      have h2 : ¬ 0 ≤ Lib.indexByte l 10 := by
        intro h3
        apply h
        by_cases hi : Lib.indexByte l 10 = -1
        · omega
        · simp [Lib.indexByte, hd, hi]; omega
      rcases List.mem_cons.1 hc with rfl | hc
      · exact hd
      · exact ih (decide_eq_false h2) h2 c hc
theorem hasNL_of {s : ByteArray} (h : ∀ c ∈ s.data.toList, c ≠ 10) : hasNL s = false := by
  unfold hasNL
  apply decide_eq_false
  generalize s.data.toList = l at *
  induction l with
  | nil => simp [Lib.indexByte]
  | cons d l ih =>
    have hd := h d (by simp)
    have ih := ih fun c hc => h c (by simp [hc])
    have hge := Lib.indexByte_ge l 10
    simp only [Lib.indexByte]
    by_cases hi : Lib.indexByte l 10 = -1
    · simp [hd, hi]
    · omega
def logB (l : List ByteArray) : List UInt8 := l.flatMap fun x => x.data.toList ++ [10]
theorem linesOf_join (ls : List ByteArray) (h : ∀ x ∈ ls, hasNL x = false) : linesOf ⟨(logB ls).toArray⟩ = ls := by
  apply maps_inj
  rw [linesOf_data]
  have e : (⟨(logB ls).toArray⟩ : ByteArray).data.toList = (ls.map (·.data.toList)).flatMap fun x => x ++ [10] := by
    simp [logB, List.flatMap_map]
  rw [e, nlL_join _ (fun x hx => by
    obtain ⟨y, hy, rfl⟩ := List.mem_map.1 hx
    exact hasNL_no (h y hy)), trimL_snoc]
theorem printP_zero {v : StepV} (h : (printP v).2 = 0) : (printP v).1 = textT v ∧ parseP (textT v) = (v, 0) ∧ hasNL (textT v) = false := by
  unfold printP at h ⊢
  by_cases hc : (parseP (textT v)).2 = 0 ∧ hasNL (textT v) = false ∧ (parseP (textT v)).1 = v
  · rw [if_pos hc]
    exact ⟨rfl, Prod.ext hc.2.2 hc.1, hc.2.1⟩
  · rw [if_neg hc] at h
    exact absurd h (by decide)
theorem printP_of {v : StepV} (h1 : parseP (textT v) = (v, 0)) (h2 : hasNL (textT v) = false) : printP v = (textT v, 0) := by
  unfold printP
  rw [if_pos ⟨by rw [h1], h2, by rw [h1]⟩]
theorem printP_code (v : StepV) : (printP v).2 = 0 ∨ (printP v).2 = 83 := by
  unfold printP
  split
  · exact .inl rfl
  · exact .inr rfl
theorem writeL_none : ∀ (l : List StepV) (acc : List UInt8) (i : Nat), (writeL l acc i).2 = none → (∀ v ∈ l, (printP v).2 = 0) ∧ (writeL l acc i).1 = acc ++ logB (l.map textT)
  | [], acc, i, _ => by simp [writeL, logB]
  | v :: l, acc, i, h => by
    unfold writeL at h ⊢
    by_cases he : (printP v).2 = 0
    · rw [if_pos he] at h ⊢
      obtain ⟨h1, h2⟩ := writeL_none l _ _ h
      refine ⟨fun x hx => ?_, ?_⟩
      · rcases List.mem_cons.1 hx with rfl | hx
        · exact he
        · exact h1 x hx
      · rw [h2, (printP_zero he).1]
        simp [logB]
    · rw [if_neg he] at h; cases h
theorem writeL_all : ∀ (l : List StepV) (acc : List UInt8) (i : Nat), (∀ v ∈ l, (printP v).2 = 0) → (writeL l acc i).2 = none
  | [], acc, i, _ => rfl
  | v :: l, acc, i, h => by
    unfold writeL
    rw [if_pos (h v (by simp))]
    exact writeL_all l _ _ fun x hx => h x (by simp [hx])
theorem writeL_some : ∀ (l : List StepV) (acc : List UInt8) (i k : Nat) (c : Int), (writeL l acc i).2 = some (k, c) → (writeL l acc i).1 = [] ∧ ∃ j, ∃ h : j < l.length, k = i + j + 1 ∧ (printP l[j]).2 = c ∧ c = 83
  | [], acc, i, k, c, h => by simp [writeL] at h
  | v :: l, acc, i, k, c, h => by
    unfold writeL at h ⊢
    by_cases he : (printP v).2 = 0
    · rw [if_pos he] at h ⊢
      obtain ⟨h0, j, hj, h1, h2, h3⟩ := writeL_some l _ _ k c h
      exact ⟨h0, j + 1, by simp; omega, by omega, h2, h3⟩
    · rw [if_neg he] at h ⊢
      simp only [Option.some.injEq, Prod.mk.injEq] at h
      exact ⟨rfl, 0, by simp, by omega, h.2, by rw [← h.2]; exact (printP_code v).resolve_left he⟩
theorem readL_texts : ∀ (l acc : List StepV), (∀ v ∈ l, parseP (textT v) = (v, 0)) → readL (l.map textT) acc = (acc ++ l, none)
  | [], acc, _ => by simp [readL]
  | v :: l, acc, h => by
    simp only [List.map_cons, readL]
    rw [h v (by simp), if_pos rfl, readL_texts l _ fun x hx => h x (by simp [hx])]
    simp
/-- What is written is read again. -/
theorem written_read {l : List StepV} (h : (writeL l [] 0).2 = none) : linesOf ⟨(writeL l [] 0).1.toArray⟩ = l.map textT ∧ readL (linesOf ⟨(writeL l [] 0).1.toArray⟩) [] = (l, none) := by
  obtain ⟨h1, h2⟩ := writeL_none l [] 0 h
  have e : linesOf ⟨(writeL l [] 0).1.toArray⟩ = l.map textT := by
    rw [h2, List.nil_append]
    exact linesOf_join _ fun x hx => by
      obtain ⟨v, hv, rfl⟩ := List.mem_map.1 hx
      exact (printP_zero (h1 v hv)).2.2
  refine ⟨e, ?_⟩
  rw [e, readL_texts l [] fun v hv => (printP_zero (h1 v hv)).2.1]
  rfl
end Go.Proofs.YtcpdgnkhkdddhaaGreatDoor.Aw

set_option maxRecDepth 100000
set_option linter.unusedVariables false
set_option linter.unusedSimpArgs false
namespace Go.Proofs.YtcpdgnkhkdddhaaGreatDoor.Aw
open Go Go.RowKit

def GoodB (c : UInt8) : Prop := 33 ≤ c.toNat ∧ c.toNat ≤ 126
def GoodL (w : List UInt8) : Prop := w ≠ [] ∧ ∀ c ∈ w, GoodB c
theorem dec_at {s : ByteArray} {pre r : List UInt8} {c : UInt8} (h : s.data.toList = pre ++ c :: r) (hc : c.toNat < 128) : pre.length < s.size ∧ Utf8.decode s pre.length = (c.toNat, 1) := by
  have hl : s.size = s.data.toList.length := by simp
  have hp : pre.length < s.size := by rw [hl, h]; simp
  have hg : s[pre.length]'hp = c := by
    have h1 : s.data.toList[pre.length]? = some c := by rw [h]; simp
    have h2 : s[pre.length]'hp = s.data.toList[pre.length]'(by rw [← hl]; exact hp) := by simp [ByteArray.getElem_eq_getElem_data]
    rw [h2]
    rw [List.getElem?_eq_getElem (by rw [← hl]; exact hp)] at h1
    exact Option.some.inj h1
  refine ⟨hp, ?_⟩
  rw [decode_ascii s pre.length hp (by rw [hg]; exact hc), hg]
theorem good_blank {c : UInt8} (h : GoodB c) : blankR c.toNat = false := by
  unfold GoodB at h
  simp [blankR]
  omega
theorem spans_run {s : ByteArray} (a f : Nat) (acc : List (Nat × Nat)) : ∀ (w pre r : List UInt8), s.data.toList = pre ++ (w ++ r) → (∀ c ∈ w, GoodB c) →
    Lib.spansFromP blankR s (f + w.length) pre.length (some a) acc = Lib.spansFromP blankR s f (pre.length + w.length) (some a) acc
  | [], pre, r, _, _ => rfl
  | c :: w, pre, r, h, hw => by
    have hc := hw c (by simp)
    obtain ⟨hp, hd⟩ := dec_at (r := w ++ r) (c := c) (by simpa using h) (by unfold GoodB at hc; omega)
    have ih := spans_run a f acc w (pre ++ [c]) r (by simpa using h) (fun d hd => hw d (by simp [hd]))
    have e1 : f + (c :: w).length = (f + w.length) + 1 := by simp; omega
    rw [e1]
    conv => lhs; unfold Lib.spansFromP
    rw [if_pos hp, hd]
    simp only [good_blank hc, Bool.false_eq_true, if_false]
    rw [show pre.length + 1 = (pre ++ [c]).length by simp, ih]
    congr 1
    simp; omega
theorem join_len_cons (w x : List UInt8) (ws : List (List UInt8)) : (Lib.join (w :: x :: ws) [32]) = w ++ 32 :: Lib.join (x :: ws) [32] := by
  simp [Lib.join, List.intercalate]
theorem fields_join {s : ByteArray} : ∀ (ws : List (List UInt8)) (pre : List UInt8) (f : Nat) (acc : List (Nat × Nat)), (∀ w ∈ ws, GoodL w) → s.data.toList = pre ++ Lib.join ws [32] → (Lib.join ws [32]).length ≤ f →
    (Lib.closeSpans s (Lib.spansFromP blankR s f pre.length none acc)).map (fun x => (s.extract x.1 x.2).data.toList) = acc.map (fun x => (s.extract x.1 x.2).data.toList) ++ ws
  | [], pre, f, acc, _, h, _ => by
    have hl : s.size = pre.length := by
      have : s.size = s.data.toList.length := by simp
      rw [this, h]; simp [Lib.join_nil]
    rw [Lib.spansFromP_end _ _ _ _ _ _ (by omega)]
    simp [Lib.closeSpans]
  | w :: ws, pre, f, acc, hg, h, hf => by
    obtain ⟨hne, hw⟩ := hg w (by simp)
    obtain ⟨c, cs, rfl⟩ := List.exists_cons_of_ne_nil hne
    have hsz : s.size = s.data.toList.length := by simp
    obtain ⟨tl, htl⟩ : ∃ tl, Lib.join ((c :: cs) :: ws) [32] = (c :: cs) ++ tl ∧ ((ws = [] ∧ tl = []) ∨ ∃ x xs, ws = x :: xs ∧ tl = 32 :: Lib.join (x :: xs) [32]) := by
      cases ws with
      | nil => exact ⟨[], by simp [Lib.join_one], .inl ⟨rfl, rfl⟩⟩
      | cons x xs => exact ⟨_, join_len_cons _ _ _, .inr ⟨x, xs, rfl, rfl⟩⟩
    obtain ⟨hj, hcase⟩ := htl
    rw [hj] at h hf
    have hc := hw c (by simp)
    obtain ⟨hp, hd⟩ := dec_at (r := cs ++ tl) (c := c) (by simpa using h) (by unfold GoodB at hc; omega)
    obtain ⟨g, rfl⟩ : ∃ g, f = g + cs.length + 1 := ⟨f - cs.length - 1, by simp at hf; omega⟩
    have hrun := spans_run (s := s) pre.length g acc cs (pre ++ [c]) tl (by simpa using h) (fun d hd => hw d (by simp [hd]))
    have e0 : Lib.spansFromP blankR s (g + cs.length + 1) pre.length none acc = Lib.spansFromP blankR s g ((pre ++ [c]).length + cs.length) (some pre.length) acc := by
      rw [← hrun]
      conv => lhs; unfold Lib.spansFromP
      rw [if_pos hp, hd]
      simp only [good_blank hc, Bool.false_eq_true, if_false]
      rw [show pre.length + 1 = (pre ++ [c]).length by simp]
    rw [e0]
    have e1 : (pre ++ [c]).length + cs.length = (pre ++ c :: cs).length := by simp; omega
    rw [e1]
    rcases hcase with ⟨rfl, rfl⟩ | ⟨x, xs, rfl, rfl⟩
    · have hend : s.size = (pre ++ c :: cs).length := by rw [hsz, h]; simp
      rw [Lib.spansFromP_end _ _ _ _ _ _ (by omega)]
      simp only [Lib.closeSpans, List.map_append, List.map_cons, List.map_nil]
      rw [Lib.extract_data, h, hend]
      simp
    · obtain ⟨hp2, hd2⟩ := dec_at (s := s) (pre := pre ++ c :: cs) (r := Lib.join (x :: xs) [32]) (c := 32) (by rw [h]; simp) (by decide)
      obtain ⟨g2, rfl⟩ : ∃ g2, g = g2 + 1 := ⟨g - 1, by simp at hf; omega⟩
      conv => lhs; unfold Lib.spansFromP
      rw [if_pos hp2, hd2]
      have hb : blankR (32 : UInt8).toNat = true := rfl
      simp only [hb, if_true]
      have ih := fields_join (s := s) (x :: xs) (pre ++ c :: cs ++ [32]) g2 (acc ++ [(pre.length, (pre ++ c :: cs).length)]) (fun w hw => hg w (by simp only [List.mem_cons] at hw ⊢; exact .inr hw)) (by rw [h]; simp) (by simp at hf ⊢; omega)
      rw [show (pre ++ c :: cs).length + 1 = (pre ++ c :: cs ++ [32]).length by simp only [List.length_append, List.length_cons, List.length_nil], ih]
      simp only [List.map_append, List.map_cons, List.map_nil, List.append_assoc]
      rw [Lib.extract_data, h]
      simp
theorem wordsL_join (ws : List ByteArray) (h : ∀ w ∈ ws, GoodL w.data.toList) : wordsL (joinS ws spaceS) = ws := by
  apply maps_inj
  unfold wordsL Lib.goFieldsP Lib.spansOfP
  have := fields_join (s := joinS ws spaceS) (ws.map (·.data.toList)) [] (joinS ws spaceS).size [] (fun w hw => by
    obtain ⟨y, hy, rfl⟩ := List.mem_map.1 hw
    exact h y hy) (by simp [joinS]; rfl) (by simp [joinS, ByteArray.size]; exact Nat.le_refl _)
  rw [List.map_map]
  exact this
end Go.Proofs.YtcpdgnkhkdddhaaGreatDoor.Aw

set_option maxRecDepth 100000
set_option linter.unusedVariables false
set_option linter.unusedSimpArgs false
namespace Go.Proofs.YtcpdgnkhkdddhaaGreatDoor.Aw
open Go Go.RowKit

/-! ### A number too great for Small's short way -/
theorem parseUint10_ge : ∀ (l : List UInt8) (acc u : Nat), Lib.parseUint10 acc l = .ok u → acc * 10 ^ l.length ≤ u
  | [], acc, u, h => by
    simp only [Lib.parseUint10, Lib.NumEnd.ok.injEq] at h
    simp [h]
  | c :: r, acc, u, h => by
    simp only [Lib.parseUint10] at h
    split at h
    · split at h
      · cases h
      · split at h
        · cases h
        · have := parseUint10_ge r _ u h
          rw [List.length_cons, Nat.pow_succ]
          have h2 : acc * 10 * 10 ^ r.length ≤ (acc * 10 + (c.toNat - 48)) * 10 ^ r.length := Nat.mul_le_mul_right _ (by omega)
          have h3 : acc * (10 ^ r.length * 10) = acc * 10 * 10 ^ r.length := by rw [Nat.mul_comm (10 ^ r.length) 10, Nat.mul_assoc]
          omega
    · cases h
theorem decDigits_head (u : Nat) (h : 1 ≤ u) : ∃ c r, Lib.decDigits u = c :: r ∧ 49 ≤ c.toNat ∧ c.toNat ≤ 57 := by
  induction u using Nat.strongRecOn with
  | _ u ih =>
    rw [Lib.decDigits]
    by_cases h10 : u < 10
    · rw [dif_pos h10]
      refine ⟨_, _, rfl, ?_, ?_⟩
      · have : (UInt8.ofNat (48 + u)).toNat = 48 + u := by simp; omega
        omega
      · have : (UInt8.ofNat (48 + u)).toNat = 48 + u := by simp; omega
        omega
    · rw [dif_neg h10]
      obtain ⟨c, r, e, h1, h2⟩ := ih (u / 10) (by omega) (by omega)
      exact ⟨c, r ++ [UInt8.ofNat (48 + u % 10)], by rw [e]; rfl, h1, h2⟩
theorem atoi_far {c : UInt8} {r : List UInt8} {v : Int} (h1 : 49 ≤ c.toNat) (h2 : c.toNat ≤ 57) (hr : 18 ≤ r.length) (h : Lib.atoiAll (c :: r) = .ok v) : 1073741824 < v := by
  have hn : ¬ (c.toNat = 43 ∨ c.toNat = 45) := by omega
  have hn2 : ¬ c.toNat = 45 := by omega
  unfold Lib.atoiAll at h
  simp only [if_neg hn] at h
  split at h
  · cases h
  · cases h
  · rename_i u hu
    simp only [hn2, not_false_eq_true, true_and, false_and, if_false] at h
    split at h
    · cases h
    · simp only [Lib.NumEnd.ok.injEq] at h
      unfold Lib.parseMag at hu
      rw [if_neg (by simp)] at hu
      simp only [Lib.parseUint10] at hu
      rw [if_pos (by omega)] at hu
      split at hu
      · cases hu
      · split at hu
        · cases hu
        · have := parseUint10_ge r _ u hu
          have hp : 10 ^ 18 ≤ 10 ^ r.length := Nat.pow_le_pow_right (by omega) hr
          have h3 : 1 * 10 ^ r.length ≤ (0 * 10 + (c.toNat - 48)) * 10 ^ r.length := Nat.mul_le_mul_right _ (by omega)
          have h4 : (10 : Nat) ^ 18 = 1000000000000000000 := by decide
          omega
theorem atoi_neg {r : List UInt8} {v : Int} (h : Lib.atoiAll (45 :: r) = .ok v) : v ≤ 0 := by
  unfold Lib.atoiAll at h
  simp only at h
  split at h
  · cases h
  · cases h
  · rename_i u hu
    split at h
    · cases h
    · split at h
      · cases h
      · simp only [Lib.NumEnd.ok.injEq] at h
        rw [if_pos (by decide)] at h
        omega
theorem textK_pre (l : List Nat) (pre : List UInt8) : ∀ k, ∃ t, textK l pre k = pre ++ t
  | 0 => ⟨[], by simp [textK]⟩
  | k + 1 => by
    obtain ⟨t, ht⟩ := textK_pre l pre k
    exact ⟨t ++ _, by rw [textK, ht, List.append_assoc]⟩
theorem small_far {z : Int} (hz : ¬ near z) (h2 : (smallV z).2 = true) (h1 : 1 ≤ (smallV z).1) : 1073741824 < (smallV z).1 := by
  unfold smallV at h1 h2 ⊢
  rw [if_neg hz] at h1 h2 ⊢
  by_cases h3 : 3 < (limbs z.natAbs).length
  · rw [if_pos h3] at h2; cases h2
  · rw [if_neg h3] at h1 h2 ⊢
    by_cases hneg : z < 0
    · obtain ⟨t, ht⟩ := textK_pre (limbs z.natAbs) [45] (limbs z.natAbs).length
      have e : textF (decide (z < 0)) (limbs z.natAbs) = 45 :: t := by
        unfold textF
        rw [if_pos (by simpa using hneg), ht]; rfl
      rw [e] at h1 h2 ⊢
      cases ha : Lib.atoiAll (45 :: t) with
      | ok v =>
        rw [ha] at h1
        have := atoi_neg ha
        dsimp only at h1
        omega
      | range => rw [ha] at h2; cases h2
      | _ => rw [ha] at h2; cases h2
    · have hbig : 1000000000000000000 ≤ z.natAbs := by unfold near at hz; omega
      have hv := valL_limbs z.natAbs
      have hlt := limbs_lt z.natAbs
      have e : decide (z < 0) = false := by simpa using hneg
      rw [e] at h1 h2 ⊢
      generalize limbs z.natAbs = l at *
      match l, h3, hv, hlt with
      | [], _, hv, _ => simp [valL] at hv; omega
      | [a], _, hv, hlt =>
        have := hlt a (by simp)
        simp [valL] at hv; omega
      | [a, b], _, hv, hlt =>
        have := hlt a (by simp)
        have := hlt b (by simp)
        simp [valL] at hv; omega
      | [a, b, c], _, hv, hlt =>
        have ha := hlt a (by simp)
        have hb := hlt b (by simp)
        have hc : 1 ≤ c := by simp [valL] at hv; omega
        obtain ⟨d, r, hd, d1, d2⟩ := decDigits_head c hc
        have et : textF false [a, b, c] = d :: (r ++ ((Lib.repeatL [48] (9 - (Lib.itoa (b : Int)).length) ++ Lib.itoa (b : Int)) ++ (Lib.repeatL [48] (9 - (Lib.itoa (a : Int)).length) ++ Lib.itoa (a : Int)))) := by
          unfold textF
          simp only [textK, List.length_cons, List.length_nil, Nat.zero_add, List.getD_cons_succ, List.getD_cons_zero, Bool.false_eq_true, if_false, if_true, List.nil_append, List.append_assoc]
          rw [show Lib.itoa ((c : Nat) : Int) = d :: r from by rw [Lib.itoa_nonneg, hd]]
          simp
        rw [et] at h1 h2 ⊢
        have hlen : 18 ≤ (r ++ ((Lib.repeatL [48] (9 - (Lib.itoa (b : Int)).length) ++ Lib.itoa (b : Int)) ++ (Lib.repeatL [48] (9 - (Lib.itoa (a : Int)).length) ++ Lib.itoa (a : Int)))).length := by
          simp only [List.length_append, Lib.repeatL_length, List.length_singleton, Nat.mul_one]
          omega
        generalize (r ++ ((Lib.repeatL [48] (9 - (Lib.itoa (b : Int)).length) ++ Lib.itoa (b : Int)) ++ (Lib.repeatL [48] (9 - (Lib.itoa (a : Int)).length) ++ Lib.itoa (a : Int)))) = rr at *
        cases hat : Lib.atoiAll (d :: rr) with
        | ok v => exact atoi_far d1 d2 hlen hat
        | range => rw [hat] at h2; cases h2
        | _ => rw [hat] at h2; cases h2
      | a :: b :: c :: d :: l, h3, _, _ => simp at h3
theorem hasPrefix_one {l : List UInt8} {c : UInt8} (h : Lib.hasPrefix l [c] = true) : ∃ r, l = c :: r ∧ Lib.trimPrefix l [c] = r := by
  cases l with
  | nil => simp [Lib.hasPrefix, List.isPrefixOf] at h
  | cons d r =>
    have : d = c := by
      simp [Lib.hasPrefix, List.isPrefixOf] at h
      exact h.symm
    subst this
    exact ⟨r, rfl, by unfold Lib.trimPrefix; rw [if_pos h]; rfl⟩
theorem trimPrefix_no {l p : List UInt8} (h : Lib.hasPrefix l p = false) : Lib.trimPrefix l p = l := by
  unfold Lib.trimPrefix
  rw [if_neg (by rw [h]; decide)]
end Go.Proofs.YtcpdgnkhkdddhaaGreatDoor.Aw

set_option maxRecDepth 100000
set_option linter.unusedVariables false
set_option linter.unusedSimpArgs false
namespace Go.Proofs.YtcpdgnkhkdddhaaGreatDoor.Aw
open Go Go.RowKit

theorem decV_pos : ∀ (d : List UInt8) (c : UInt8), digitB c = true → c ≠ 48 → 1 ≤ decV (c :: d) := by
  intro d c hc h0
  have h1 : c.toNat ≠ 48 := fun e => h0 (UInt8.toNat_inj.1 (by rw [e]; rfl))
  unfold digitB at hc
  simp at hc
  have key : ∀ (l : List UInt8) (n : Nat), 1 ≤ n → 1 ≤ l.foldl (fun n c => 10 * n + (c.toNat - 48)) n := by
    intro l
    induction l with
    | nil => intro n hn; exact hn
    | cons x l ih => intro n hn; exact ih (10 * n + (x.toNat - 48)) (by omega)
  unfold decV
  exact key d (10 * 0 + (c.toNat - 48)) (by omega)
theorem digit_back {c : UInt8} (h : digitB c = true) : UInt8.ofNat (48 + (c.toNat - 48)) = c := by
  unfold digitB at h
  simp at h
  rw [show 48 + (c.toNat - 48) = c.toNat by omega]
  exact UInt8.ofNat_toNat
/-- A numeral with no zero ahead is how its number is written. -/
theorem decDigits_decV : ∀ (n : Nat) (d : List UInt8), d.length = n → d ≠ [] → (∀ c ∈ d, digitB c = true) → d.head? ≠ some 48 ∨ d = [48] → Lib.decDigits (decV d) = d
  | 0, d, hn, hne, _, _ => absurd (List.eq_nil_of_length_eq_zero hn) hne
  | n + 1, d, hn, hne, hd, hh => by
    obtain ⟨d, c, rfl⟩ : ∃ i c, d = i ++ [c] := ⟨d.dropLast, d.getLast hne, (List.dropLast_concat_getLast hne).symm⟩
    have hc := hd c (by simp)
    have hcb := hc
    unfold digitB at hcb
    simp at hcb
    rw [decV_snoc]
    by_cases he : d = []
    · subst he
      rw [Lib.decDigits, dif_pos (by simp [decV]; omega)]
      simp only [decV, List.foldl_nil, List.nil_append, Nat.mul_zero, Nat.zero_add]
      rw [digit_back hc]
    · obtain ⟨x, xs, rfl⟩ := List.exists_cons_of_ne_nil he
      have hh' : (x :: xs).head? ≠ some 48 := by
        rcases hh with h | h
        · simpa using h
        · simp at h
      have hx : x ≠ 48 := fun e => hh' (by rw [e]; rfl)
      have hp := decV_pos xs x (hd x (by simp)) hx
      have ih := decDigits_decV n (x :: xs) (by simpa using hn) (by simp) (fun y hy => hd y (List.mem_append_left _ hy)) (.inl hh')
      rw [Lib.decDigits, dif_neg (by omega), show (10 * decV (x :: xs) + (c.toNat - 48)) / 10 = decV (x :: xs) by omega, show (10 * decV (x :: xs) + (c.toNat - 48)) % 10 = c.toNat - 48 by omega,
        ih, digit_back hc]
/-! ### Literals -/
theorem digitB_good {c : UInt8} (h : digitB c = true) : GoodB c := by
  unfold digitB at h
  simp at h
  unfold GoodB
  omega
theorem parseI_good {l : List UInt8} (h : (parseI l).isSome = true) : GoodL l := by
  unfold parseI at h
  dsimp only at h
  split at h
  · cases h
  · rename_i hn
    have h1 : Lib.trimPrefix l [45] ≠ [] := fun e => hn (.inl e)
    have h2 : (Lib.trimPrefix l [45]).all digitB = true := by
      cases hb : (Lib.trimPrefix l [45]).all digitB
      · exact absurd (.inr (.inr hb)) hn
      · rfl
    cases hp : Lib.hasPrefix l [45] with
    | true =>
      obtain ⟨r, rfl, hr⟩ := hasPrefix_one hp
      rw [hr] at h1 h2
      refine ⟨by simp, fun c hc => ?_⟩
      rcases List.mem_cons.1 hc with rfl | hc
      · unfold GoodB; decide
      · exact digitB_good (List.all_eq_true.1 h2 c hc)
    | false =>
      rw [trimPrefix_no hp] at h1 h2
      exact ⟨h1, fun c hc => digitB_good (List.all_eq_true.1 h2 c hc)⟩
theorem isNumV_good {l : List UInt8} {low : Int} (h : isNumV l low = true) : GoodL l := by
  unfold isNumV at h
  simp only [Bool.and_eq_true] at h
  exact parseI_good h.1
/-- The text of a size that is no zero. -/
theorem parseI_pos {l : List UInt8} {z : Int} (h : parseI l = some z) (hz : 1 ≤ z) : l = Lib.itoa z := by
  unfold parseI at h
  dsimp only at h
  split at h
  · cases h
  · rename_i hn
    have h1 : Lib.trimPrefix l [45] ≠ [] := fun e => hn (.inl e)
    have h2 : (Lib.trimPrefix l [45]).all digitB = true := by
      cases hb : (Lib.trimPrefix l [45]).all digitB
      · exact absurd (.inr (.inr hb)) hn
      · rfl
    cases hp : Lib.hasPrefix l [45] with
    | true =>
      rw [hp] at h
      simp only [if_true, Option.some.injEq] at h
      omega
    | false =>
      rw [hp] at h
      rw [trimPrefix_no hp] at h h1 h2 hn
      simp only [Bool.false_eq_true, if_false, Option.some.injEq] at h
      have h3 : l.head? ≠ some 48 ∨ l = [48] := by
        by_cases hl : l = [48]
        · exact .inr hl
        · exact .inl fun e => hn (.inr (.inl ⟨e, hl⟩))
      rw [← h, Lib.itoa_nonneg, decDigits_decV _ l rfl h1 (List.all_eq_true.1 h2) h3]
theorem litV_back (w : ByteArray) (h : litV w.data.toList ≠ 0) : litT (litV w.data.toList) = w ∧ GoodL w.data.toList ∧ -1073741824 ≤ litV w.data.toList ∧ litV w.data.toList ≤ 1073741824 := by
  generalize hw : w.data.toList = l at *
  unfold litV at h
  dsimp only at h
  split at h
  · exact absurd rfl h
  · rename_i hn
    have a1 : Lib.hasPrefix (Lib.trimPrefix l [126]) [120] = true := by
      cases hb : Lib.hasPrefix (Lib.trimPrefix l [126]) [120]
      · exact absurd (.inl hb) hn
      · rfl
    have a2 : (parseI (Lib.trimPrefix (Lib.trimPrefix l [126]) [120])).isSome = true := by
      cases hb : (parseI (Lib.trimPrefix (Lib.trimPrefix l [126]) [120])).isSome
      · exact absurd (.inr (.inl hb)) hn
      · rfl
    obtain ⟨d, hd1, hd2⟩ := hasPrefix_one a1
    rw [hd2] at a2
    obtain ⟨z, hz⟩ := Option.isSome_iff_exists.1 a2
    have hl : litV l = if Lib.hasPrefix l [126] then -(smallV z).1 else (smallV z).1 := by
      unfold litV
      dsimp only
      rw [if_neg hn, hd2, hz]; rfl
    rw [hd2, hz] at hn
    simp only [Option.getD_some] at hn
    have a3 : (smallV z).2 = true := by
      cases hb : (smallV z).2
      · exact absurd (.inr (.inr (.inl hb))) hn
      · rfl
    have a4 : ¬ (smallV z).1 < 1 := fun hb => hn (.inr (.inr (.inr (.inl hb))))
    have a5 : ¬ 1073741824 < (smallV z).1 := fun hb => hn (.inr (.inr (.inr (.inr hb))))
    have hnear : near z := by
      by_cases hq : near z
      · exact hq
      · exact absurd (small_far hq a3 (by omega)) a5
    have hs : (smallV z).1 = z := by unfold smallV; rw [if_pos hnear]
    rw [hs] at a4 a5 hl
    have hdz := parseI_pos hz (by omega)
    have hgd := parseI_good (l := d) (by rw [hz]; rfl)
    cases hp : Lib.hasPrefix l [126] with
    | true =>
      obtain ⟨r, rfl, hr⟩ := hasPrefix_one hp
      rw [hr] at hd1
      subst hd1
      rw [hl, hp]
      simp only [if_true]
      refine ⟨?_, ⟨by simp, fun c hc => ?_⟩, by omega, by omega⟩
      · apply bytes_inj
        rw [hw]
        unfold litT
        rw [if_pos (by omega), show IntKind.i64.wrap (0 - -z) = z by rw [show 0 - -z = z by omega]; exact wrap_i64 (by omega) (by omega)]
        simp [itoaS, hdz]
      · rcases List.mem_cons.1 hc with rfl | hc
        · unfold GoodB; decide
        · rcases List.mem_cons.1 hc with rfl | hc
          · unfold GoodB; decide
          · exact hgd.2 c hc
    | false =>
      rw [trimPrefix_no hp] at hd1
      subst hd1
      rw [hl, hp]
      simp only [Bool.false_eq_true, if_false]
      refine ⟨?_, ⟨by simp, fun c hc => ?_⟩, by omega, by omega⟩
      · apply bytes_inj
        rw [hw]
        unfold litT
        rw [if_neg (by omega)]
        simp [itoaS, hdz]
      · rcases List.mem_cons.1 hc with rfl | hc
        · unfold GoodB; decide
        · exact hgd.2 c hc
end Go.Proofs.YtcpdgnkhkdddhaaGreatDoor.Aw

set_option maxRecDepth 100000
set_option linter.unusedVariables false
set_option linter.unusedSimpArgs false
namespace Go.Proofs.YtcpdgnkhkdddhaaGreatDoor.Aw
open Go Go.RowKit

def J (ws : List ByteArray) : ByteArray := joinS ws spaceS
theorem J_data (ws : List ByteArray) : (J ws).data.toList = Lib.join (ws.map (·.data.toList)) [32] := by simp [J, joinS]; rfl
theorem J_one (w : ByteArray) : J [w] = w := by
  apply bytes_inj
  rw [J_data]
  simp [Lib.join_one]
theorem joinTail_app (sep : List UInt8) (a b : List (List UInt8)) : Lib.joinTail sep (a ++ b) = Lib.joinTail sep a ++ Lib.joinTail sep b := by simp [Lib.joinTail]
theorem joinTail_flat (sep : List UInt8) : ∀ lls : List (List (List UInt8)), (∀ l ∈ lls, l ≠ []) → Lib.joinTail sep (lls.map (Lib.join · sep)) = Lib.joinTail sep lls.flatten
  | [], _ => rfl
  | l :: lls, h => by
    have ih := joinTail_flat sep lls fun x hx => h x (by simp [hx])
    obtain ⟨x, r, rfl⟩ := List.exists_cons_of_ne_nil (h l (by simp))
    rw [List.flatten_cons, joinTail_app, ← ih]
    simp [Lib.joinTail, Lib.join_cons]
theorem join_flat (sep : List UInt8) (lls : List (List (List UInt8))) (h : ∀ l ∈ lls, l ≠ []) : Lib.join (lls.map (Lib.join · sep)) sep = Lib.join lls.flatten sep := by
  cases lls with
  | nil => rfl
  | cons l lls =>
    obtain ⟨x, r, rfl⟩ := List.exists_cons_of_ne_nil (h l (by simp))
    rw [List.map_cons, Lib.join_cons, joinTail_flat sep lls fun y hy => h y (by simp [hy]), List.flatten_cons, List.cons_append, Lib.join_cons x r, Lib.join_cons x (r ++ lls.flatten), joinTail_app, List.append_assoc]
theorem J_flat (lls : List (List ByteArray)) (h : ∀ l ∈ lls, l ≠ []) : J (lls.map J) = J lls.flatten := by
  apply bytes_inj
  rw [J_data, J_data]
  have e1 : (lls.map J).map (·.data.toList) = (lls.map (fun l => l.map (·.data.toList))).map (Lib.join · [32]) := by
    rw [List.map_map, List.map_map]
    apply List.map_congr_left
    intro l _
    exact J_data l
  rw [e1, join_flat [32] _ (fun l hl => by
    obtain ⟨y, hy, rfl⟩ := List.mem_map.1 hl
    simpa using h y hy), List.map_flatten]
abbrev GoodW (w : ByteArray) : Prop := GoodL w.data.toList
instance (c : UInt8) : Decidable (GoodB c) := inferInstanceAs (Decidable (_ ∧ _))
theorem good_of (w : ByteArray) (h : (decide (w.data.toList ≠ []) && w.data.toList.all fun c => decide (GoodB c)) = true) : GoodW w := by
  simp only [Bool.and_eq_true, decide_eq_true_eq, List.all_eq_true] at h
  exact h
/-! ### Numbers, ids, literals -/
theorem numG_inv {low : Int} {l rest : List ByteArray} {x : ByteArray} (h : numG low l = (x, 0, rest)) : l = x :: rest ∧ GoodW x := by
  cases l with
  | nil => simp [numG] at h
  | cons w l =>
    simp only [numG] at h
    split at h
    · rename_i hw
      simp only [Prod.mk.injEq, true_and] at h
      obtain ⟨rfl, rfl⟩ := h
      exact ⟨rfl, isNumV_good hw⟩
    · simp at h
theorem exactG_inv : ∀ {l xs rest : List ByteArray}, exactG l xs = (rest, 0) → l = xs ++ rest
  | l, [], rest, h => by
    cases l <;> simpa [exactG] using h
  | [], x :: xs, rest, h => by simp [exactG] at h
  | w :: l, x :: xs, rest, h => by
    unfold exactG at h
    split at h
    · rename_i hw
      rw [hw, exactG_inv h]; rfl
    · simp at h
theorem idsG_inv : ∀ {ws ids ids' rest : List ByteArray}, idsG ws ids = (ids', 0, rest) → rest = [] ∧ ids' = ids ++ ws ∧ ∀ w ∈ ws, GoodW w
  | [], ids, ids', rest, h => by
    simp [idsG] at h
    simp [h.1, h.2]
  | w :: l, ids, ids', rest, h => by
    unfold idsG at h
    split at h
    · rename_i hw
      obtain ⟨h1, h2, h3⟩ := idsG_inv h
      refine ⟨h1, by rw [h2]; simp, fun x hx => ?_⟩
      rcases List.mem_cons.1 hx with rfl | hx
      · exact isNumV_good hw
      · exact h3 x hx
    · simp at h
theorem litsG_inv : ∀ {ws : List ByteArray} {ls ls' : List Int} {rest : List ByteArray}, litsG ws ls = (ls', 0, rest) → rest = [] ∧ ∃ q, ls' = ls ++ q ∧ litsT q = ws ∧ (∀ w ∈ ws, GoodW w) ∧ ∀ z ∈ q, okI z
  | [], ls, ls', rest, h => by
    simp [litsG] at h
    exact ⟨h.2, [], by simp [h.1], rfl, by simp, by simp⟩
  | w :: l, ls, ls', rest, h => by
    unfold litsG at h
    split at h
    · simp at h
    · rename_i hw
      obtain ⟨h1, q, h2, h3, h4, h5⟩ := litsG_inv h
      obtain ⟨b1, b2, b3, b4⟩ := litV_back w hw
      refine ⟨h1, litV w.data.toList :: q, by rw [h2]; simp, ?_, fun x hx => ?_, fun z hz => ?_⟩
      · simp only [litsT, List.map_cons] at h3 ⊢
        rw [b1, h3]
      · rcases List.mem_cons.1 hx with rfl | hx
        · exact b2
        · exact h4 x hx
      · rcases List.mem_cons.1 hz with rfl | hz
        · unfold okI; omega
        · exact h5 z hz
/-! ### Rows -/
theorem pieceG_inv : ∀ (ws : List ByteArray) (p p' : List (ByteArray × Int)) (rest : List ByteArray), pieceG ws p = (p', 0, rest) →
    ∃ q r, p' = p ++ q ∧ rest = geS :: r ∧ ws = pieceT q ++ rest ∧ (∀ w ∈ pieceT q, GoodW w) ∧ ∀ x ∈ q, okI x.2 ∧ x.1 ∈ ws
  | [], p, p', rest, h => by simp [pieceG] at h
  | [w], p, p', rest, h => by
    unfold pieceG at h
    split at h
    · rename_i hw
      simp only [Prod.mk.injEq, true_and] at h
      exact ⟨[], [], by simp [h.1], by rw [← h.2, hw], by simp [pieceT, h.2], by simp [pieceT], by simp⟩
    · split at h <;> simp at h
  | w :: x :: l, p, p', rest, h => by
    unfold pieceG at h
    split at h
    · rename_i hw
      simp only [Prod.mk.injEq, true_and] at h
      exact ⟨[], x :: l, by simp [h.1], by rw [← h.2, hw], by simp [pieceT, h.2], by simp [pieceT], by simp⟩
    · split at h
      · rename_i hn
        split at h
        · simp at h
        · rename_i hx
          obtain ⟨q, r, h1, h2, h3, h4, h5⟩ := pieceG_inv l _ p' rest h
          obtain ⟨b1, b2, b3, b4⟩ := litV_back x hx
          refine ⟨(w, litV x.data.toList) :: q, r, by rw [h1]; simp, h2, ?_, fun y hy => ?_, fun y hy => ?_⟩
          · simp only [pieceT, List.flatMap_cons, b1] at h3 ⊢
            rw [h3]; rfl
          · simp only [pieceT, List.flatMap_cons, b1, List.cons_append, List.nil_append, List.mem_cons] at hy
            rcases hy with rfl | rfl | hy
            · exact isNumV_good hn
            · exact b2
            · exact h4 y hy
          · rcases List.mem_cons.1 hy with rfl | hy
            · exact ⟨by unfold okI; dsimp only; omega, by simp⟩
            · exact ⟨(h5 y hy).1, by simp [(h5 y hy).2]⟩
      · simp at h
theorem rowG_inv {ws rest : List ByteArray} {v v' : StepV} (h : rowG ws v = (0, rest, v')) : ∃ q b, v' = { v with pieces := v.pieces ++ q, bound := b } ∧ ws = (pieceT q ++ [geS, b, semiS]) ++ rest ∧ (∀ w ∈ pieceT q ++ [geS, b, semiS], GoodW w) ∧ ∀ x ∈ q, okI x.2 ∧ x.1 ∈ ws := by
  unfold rowG at h
  rcases hp : pieceG ws v.pieces with ⟨p', e, rest'⟩
  rw [hp] at h
  dsimp only at h
  split at h
  · rename_i he
    subst he
    obtain ⟨q, r, h1, h2, h3, h4, h5⟩ := pieceG_inv _ _ _ _ hp
    subst h2
    rw [List.tail_cons] at h
    unfold boundG at h
    rcases hn : numG (-1) r with ⟨b, e2, r2⟩
    rw [hn] at h
    dsimp only at h
    split at h
    · rename_i he2
      subst he2
      obtain ⟨n1, n2⟩ := numG_inv hn
      rcases hx : exactG r2 [semiS] with ⟨r3, e3⟩
      rw [hx] at h
      simp only [Prod.mk.injEq] at h
      obtain ⟨rfl, rfl, rfl⟩ := h
      have hx' := exactG_inv hx
      refine ⟨q, b, by rw [h1], by rw [h3, n1, hx']; simp, fun w hw => ?_, h5⟩
      simp only [List.mem_append, List.mem_cons, List.not_mem_nil, or_false] at hw
      rcases hw with hw | rfl | rfl | rfl
      · exact h4 w hw
      · exact good_of _ (by decide)
      · exact n2
      · exact good_of _ (by decide)
    · rename_i he2
      simp only [Prod.mk.injEq] at h
      exact absurd h.1 he2
  · rename_i he
    simp only [Prod.mk.injEq] at h
    exact absurd h.1 he
/-! ### Operations -/
def starS : ByteArray := ⟨#[42]⟩
def dS : ByteArray := ⟨#[100]⟩
def wS : ByteArray := ⟨#[119]⟩
def opW (o : OpV) : List ByteArray :=
  if o.1 = 1 then [o.2.1] else if o.1 = 2 then [litT o.2.2] else if o.1 = 3 then [plusS] else if o.1 = 4 then [o.2.1, starS] else if o.1 = 5 then [o.2.1, dS] else if o.1 = 6 then [sS] else if o.1 = 7 then [litT o.2.2, wS] else [⟨#[]⟩]
theorem opW_ne (o : OpV) : opW o ≠ [] := by
  unfold opW
  repeat' split
  all_goals simp
theorem J_two (a b : ByteArray) : J [a, b] = a ++ ((⟨#[32]⟩ : ByteArray) ++ b) := by
  apply bytes_inj
  rw [J_data]
  simp [Lib.join, List.intercalate]
theorem opT_J (o : OpV) : opT o = J (opW o) := by
  unfold opT opW
  repeat' split
  all_goals first
    | rw [J_one]
    | (rw [J_two]; rfl)
    | rfl
  all_goals rfl
theorem behindN_inv {l rest : List ByteArray} {k : Int} (h : behindG tbN l 1 = (k, rest)) : (k = 1 ∧ l = rest) ∨ (k = 4 ∧ l = starS :: rest) ∨ (k = 5 ∧ l = dS :: rest) := by
  cases l with
  | nil => simp [behindG] at h; exact .inl ⟨h.1.symm, h.2.symm⟩
  | cons w l =>
    unfold behindG tbN at h
    simp only [List.find?_cons, List.find?_nil] at h
    by_cases h1 : (⟨#[42]⟩ : ByteArray) = w
    · simp [h1] at h
      exact .inr (.inl ⟨h.1.symm, by rw [← h1, h.2]; rfl⟩)
    · by_cases h2 : (⟨#[100]⟩ : ByteArray) = w
      · simp [h1, h2] at h
        exact .inr (.inr ⟨h.1.symm, by rw [← h2, h.2]; rfl⟩)
      · simp [h1, h2] at h
        exact .inl ⟨h.1.symm, h.2⟩
theorem behindL_inv {l rest : List ByteArray} {k : Int} (h : behindG tbL l 2 = (k, rest)) : (k = 2 ∧ l = rest) ∨ (k = 7 ∧ l = wS :: rest) := by
  cases l with
  | nil => simp [behindG] at h; exact .inl ⟨h.1.symm, h.2.symm⟩
  | cons w l =>
    unfold behindG tbL at h
    simp only [List.find?_cons, List.find?_nil] at h
    by_cases h1 : (⟨#[119]⟩ : ByteArray) = w
    · simp [h1] at h
      exact .inr ⟨h.1.symm, by rw [← h1, h.2]; rfl⟩
    · simp [h1] at h
      exact .inl ⟨h.1.symm, h.2⟩
theorem opG_inv {ws rest : List ByteArray} {o : OpV} (h : opG ws = (o, 0, rest)) : ws = opW o ++ rest ∧ (∀ w ∈ opW o, GoodW w) ∧ okI o.2.2 ∧ (o.2.1 = ByteArray.empty ∨ o.2.1 ∈ ws) := by
  cases ws with
  | nil => simp [opG] at h
  | cons w l =>
    unfold opG at h
    dsimp only at h
    have ok0 : okI 0 := ⟨by decide, by decide⟩
    split at h
    · rename_i hw
      simp only [Prod.mk.injEq, true_and] at h
      obtain ⟨rfl, rfl⟩ := h
      exact ⟨by rw [hw]; rfl, fun x hx => by
        obtain rfl : x = plusS := by simpa [opW] using hx
        exact good_of _ (by decide), ok0, .inl rfl⟩
    split at h
    · rename_i hw
      simp only [Prod.mk.injEq, true_and] at h
      obtain ⟨rfl, rfl⟩ := h
      exact ⟨by rw [hw]; rfl, fun x hx => by
        obtain rfl : x = sS := by simpa [opW] using hx
        exact good_of _ (by decide), ok0, .inl rfl⟩
    split at h
    · rename_i hw
      have hg : GoodW w := isNumV_good hw
      rcases hb : behindG tbN l 1 with ⟨k, r2⟩
      rw [hb] at h
      simp only [Prod.mk.injEq, true_and] at h
      obtain ⟨rfl, rfl⟩ := h
      rcases behindN_inv hb with ⟨k1, k2⟩ | ⟨k1, k2⟩ | ⟨k1, k2⟩
      · rw [k1, k2]
        exact ⟨rfl, fun x hx => by
          obtain rfl : x = w := by simpa [opW] using hx
          exact hg, ok0, .inr (by simp)⟩
      · rw [k1, k2]
        exact ⟨rfl, fun x hx => by
          have : x = w ∨ x = starS := by simpa [opW] using hx
          rcases this with rfl | rfl
          · exact hg
          · exact good_of _ (by decide), ok0, .inr (by simp)⟩
      · rw [k1, k2]
        exact ⟨rfl, fun x hx => by
          have : x = w ∨ x = dS := by simpa [opW] using hx
          rcases this with rfl | rfl
          · exact hg
          · exact good_of _ (by decide), ok0, .inr (by simp)⟩
    split at h
    · simp at h
    split at h
    · rename_i hw
      obtain ⟨b1, b2, b3, b4⟩ := litV_back w (by omega)
      have ok1 : okI (litV w.data.toList) := by unfold okI; omega
      rcases hb : behindG tbL l 2 with ⟨k, r2⟩
      rw [hb] at h
      simp only [Prod.mk.injEq, true_and] at h
      obtain ⟨rfl, rfl⟩ := h
      rcases behindL_inv hb with ⟨k1, k2⟩ | ⟨k1, k2⟩
      · rw [k1, k2]
        exact ⟨by simp [opW, b1], fun x hx => by
          obtain rfl : x = w := by simpa [opW, b1] using hx
          exact b2, ok1, .inl rfl⟩
      · rw [k1, k2]
        exact ⟨by simp [opW, b1], fun x hx => by
          have : x = w ∨ x = wS := by simpa [opW, b1] using hx
          rcases this with rfl | rfl
          · exact b2
          · exact good_of _ (by decide), ok1, .inl rfl⟩
    split at h
    · rename_i hw
      obtain ⟨b1, b2, b3, b4⟩ := litV_back w (by omega)
      have ok1 : okI (litV w.data.toList) := by unfold okI; omega
      simp only [Prod.mk.injEq, true_and] at h
      obtain ⟨rfl, rfl⟩ := h
      exact ⟨by simp [opW, b1], fun x hx => by
        obtain rfl : x = w := by simpa [opW, b1] using hx
        exact b2, ok1, .inl rfl⟩
    · simp at h
theorem polF_inv : ∀ (f : Nat) (ws : List ByteArray) (ops ops' : List OpV), polF f ws ops = (ops', 0, []) →
    ∃ q, ops' = ops ++ q ∧ ws = q.flatMap opW ∧ (∀ w ∈ ws, GoodW w) ∧ ∀ o ∈ q, okI o.2.2 ∧ (o.2.1 = ByteArray.empty ∨ o.2.1 ∈ ws)
  | 0, ws, ops, ops', h => by
    simp only [polF, Prod.mk.injEq, true_and] at h
    obtain ⟨rfl, rfl⟩ := h
    exact ⟨[], by simp, rfl, by simp, by simp⟩
  | f + 1, ws, ops, ops', h => by
    unfold polF at h
    split at h
    · rcases ho : opG ws with ⟨o, e, rest⟩
      rw [ho] at h
      dsimp only at h
      split at h
      · rename_i he
        subst he
        obtain ⟨o1, o2, o3, o4⟩ := opG_inv ho
        obtain ⟨q, h1, h2, h3, h4⟩ := polF_inv f _ _ _ h
        refine ⟨o :: q, by rw [h1]; simp, by rw [o1, h2]; rfl, fun w hw => ?_, fun y hy => ?_⟩
        · rw [o1] at hw
          rcases List.mem_append.1 hw with hw | hw
          · exact o2 w hw
          · exact h3 w hw
        · rcases List.mem_cons.1 hy with rfl | hy
          · exact ⟨o3, o4⟩
          · exact ⟨(h4 y hy).1, (h4 y hy).2.imp id fun hm => by rw [o1]; exact List.mem_append_right _ hm⟩
      · rename_i he
        simp only [Prod.mk.injEq] at h
        exact absurd h.2.1 he
    · simp only [Prod.mk.injEq, true_and] at h
      obtain ⟨rfl, rfl⟩ := h
      exact ⟨[], by simp, rfl, by simp, by simp⟩
/-! ### Conclusions -/
theorem idG_inv {ws rest : List ByteArray} {v v' : StepV} (h : idG ws v = (0, rest, v')) : (v' = v ∧ rest = ws) ∨ ∃ x, ws = colonS :: x :: rest ∧ GoodW x ∧ v' = { v with ids := [x] } := by
  unfold idG at h
  split at h
  · rename_i hc
    obtain ⟨l, rfl⟩ : ∃ l, ws = colonS :: l := by
      cases ws with
      | nil => simp at hc
      | cons a l => exact ⟨l, by simp at hc; rw [hc]⟩
    rw [List.tail_cons] at h
    rcases hn : numG 1 l with ⟨x, e, r⟩
    rw [hn] at h
    dsimp only at h
    split at h
    · rename_i he
      subst he
      obtain ⟨n1, n2⟩ := numG_inv hn
      simp only [Prod.mk.injEq, true_and] at h
      obtain ⟨rfl, rfl⟩ := h
      exact .inr ⟨x, by rw [n1], n2, rfl⟩
    · rename_i he
      simp only [Prod.mk.injEq] at h
      exact absurd h.1 he
  · simp only [Prod.mk.injEq, true_and] at h
    exact .inl ⟨h.2.symm, h.1.symm⟩
end Go.Proofs.YtcpdgnkhkdddhaaGreatDoor.Aw

set_option maxRecDepth 100000
set_option linter.unusedVariables false
set_option linter.unusedSimpArgs false
namespace Go.Proofs.YtcpdgnkhkdddhaaGreatDoor.Aw
open Go Go.RowKit

structure RT (ws : List ByteArray) (v : StepV) : Prop where
  good : ∀ w ∈ ws, GoodW w
  text : textT v = J ws
  ok : OkStep v
theorem good_all (ws : List ByteArray) (h : (ws.all fun w => decide (w.data.toList ≠ []) && w.data.toList.all fun c => decide (GoodB c)) = true) : ∀ w ∈ ws, GoodW w := fun w hw => good_of w (List.all_eq_true.1 h w hw)
theorem good_cons {w : ByteArray} {l : List ByteArray} (h1 : GoodW w) (h2 : ∀ x ∈ l, GoodW x) : ∀ x ∈ w :: l, GoodW x := fun x hx => by
  rcases List.mem_cons.1 hx with rfl | hx
  · exact h1
  · exact h2 x hx
theorem okS {v : StepV} (h1 : v.ops.length ≤ 1000000 := by simp [zeroV]) (h2 : ∀ o ∈ v.ops, okI o.2.2 ∧ o.2.1.size ≤ 10000000 := by simp [zeroV]) (h3 : v.pieces.length ≤ 1000000 := by simp [zeroV]) (h4 : ∀ p ∈ v.pieces, okI p.2 ∧ p.1.size ≤ 10000000 := by simp [zeroV]) (h5 : v.bound.size ≤ 10000000 := by simp [zeroV])
    (h6 : v.lits.length ≤ 1000000 := by simp [zeroV]) (h7 : ∀ z ∈ v.lits, okI z := by simp [zeroV]) (h8 : v.ids.length ≤ 1000000 := by simp [zeroV]) (h9 : ∀ x ∈ v.ids, x.size ≤ 10000000 := by simp [zeroV]) (h10 : v.num.size ≤ 10000000 := by simp [zeroV]) (h11 : v.s7.size ≤ 10000000 := by simp [zeroV]) (h12 : v.s8.size ≤ 10000000 := by simp [zeroV]) : OkStep v :=
  ⟨⟨h1, h2⟩, ⟨h3, h4, h5⟩, ⟨h6, h7⟩, ⟨h8, h9⟩, h10, h11, h12⟩
theorem singles_J (l : List ByteArray) : (l.map fun x => [x]).map J = l := by
  rw [List.map_map]
  conv => rhs; rw [← List.map_id l]
  exact List.map_congr_left fun x _ => J_one x
theorem singles_flat (l : List ByteArray) : (l.map fun x => [x]).flatten = l := by
  induction l with
  | nil => rfl
  | cons x l ih => simp [ih]
theorem rowT_J (ps : List (ByteArray × Int)) (b : ByteArray) : rowT ps b = J (pieceT ps ++ [geS, b, semiS]) := rfl
theorem fix_rt {k : Int} {w : ByteArray} {xs l : List ByteArray} {v : StepV} (h : fixG k xs l zeroV = (0, [], v)) : l = xs ∧ v = { zeroV with kind := k } := by
  unfold fixG at h
  rcases hx : exactG l xs with ⟨r, e⟩
  rw [hx] at h
  simp only [Prod.mk.injEq] at h
  obtain ⟨rfl, rfl, rfl⟩ := h
  exact ⟨by rw [exactG_inv hx, List.append_nil], rfl⟩
theorem count_rt {l : List ByteArray} {v : StepV} (hs : ∀ w ∈ l, w.size ≤ 10000000) (h : countG l zeroV = (0, [], v)) : RT (kF :: l) v := by
  unfold countG at h
  rcases hx : numG 0 l with ⟨x, e, r⟩
  rw [hx] at h
  simp only [Prod.mk.injEq] at h
  obtain ⟨rfl, rfl, rfl⟩ := h
  obtain ⟨rfl, hg⟩ := numG_inv hx
  exact ⟨good_cons (good_of _ (by decide)) (good_cons hg (by simp)), by simp [textT, textW, J], okS (h10 := hs x (by simp))⟩
theorem flat_len (q : List OpV) : q.length ≤ (q.flatMap opW).length := by
  induction q with
  | nil => simp
  | cons o q ih =>
    have : 1 ≤ (opW o).length := List.length_pos_iff.2 (opW_ne o)
    rw [List.flatMap_cons, List.length_append, List.length_cons]; omega
theorem pol_text (q : List OpV) : J ([kPol] ++ q.map opT) = J (kPol :: q.flatMap opW) := by
  have := J_flat ([kPol] :: q.map opW) (fun l hl => by
    rcases List.mem_cons.1 hl with rfl | hl
    · simp
    · obtain ⟨o, _, rfl⟩ := List.mem_map.1 hl
      exact opW_ne o)
  rw [List.map_cons, J_one, List.map_map, List.flatten_cons, ← List.flatMap_def] at this
  rw [show (q.map opT) = q.map (J ∘ opW) from List.map_congr_left fun o _ => opT_J o]
  exact this
theorem pol_rt {l : List ByteArray} {v : StepV} (hl : l.length ≤ 1000000) (hs : ∀ w ∈ l, w.size ≤ 10000000) (h : polG l zeroV = (0, [], v)) : RT (kPol :: l) v := by
  unfold polG at h
  rcases hx : polF (l.length + 2) l zeroV.ops with ⟨ops, e, r⟩
  rw [hx] at h
  simp only [Prod.mk.injEq] at h
  obtain ⟨rfl, rfl, rfl⟩ := h
  obtain ⟨q, h1, h2, h3, h4⟩ := polF_inv _ _ _ _ hx
  have h1 : ops = q := by simpa [zeroV] using h1
  subst h1
  refine ⟨good_cons (good_of _ (by decide)) h3, ?_, okS (h1 := ?_) (h2 := ?_)⟩
  · rw [h2, ← pol_text]
    simp [textT, textW, J]
  · have := flat_len ops
    rw [← h2] at this
    show ops.length ≤ _
    omega
  · intro o ho
    refine ⟨(h4 o ho).1, ?_⟩
    rcases (h4 o ho).2 with h | h
    · rw [h]; decide
    · exact hs _ h
theorem row_fit {q : List (ByteArray × Int)} {b : ByteArray} {ws rest : List ByteArray} (hl : ws.length ≤ 1000000) (hs : ∀ w ∈ ws, w.size ≤ 10000000) (h2 : ws = (pieceT q ++ [geS, b, semiS]) ++ rest) (h4 : ∀ x ∈ q, okI x.2 ∧ x.1 ∈ ws) :
    q.length ≤ 1000000 ∧ (∀ p ∈ q, okI p.2 ∧ p.1.size ≤ 10000000) ∧ b.size ≤ 10000000 := by
  refine ⟨?_, fun p hp => ⟨(h4 p hp).1, hs _ (h4 p hp).2⟩, hs _ (by rw [h2]; simp)⟩
  have := pieceT_len q
  have h3 := congrArg List.length h2
  simp at h3
  omega
theorem rup_rt {l : List ByteArray} {v : StepV} (hl : l.length ≤ 1000000) (hs : ∀ w ∈ l, w.size ≤ 10000000) (h : rupG l zeroV = (0, [], v)) : RT (kRup :: l) v := by
  unfold rupG at h
  rcases hx : rowG l { zeroV with kind := 4 } with ⟨e, r, v1⟩
  rw [hx] at h
  dsimp only at h
  split at h
  · rename_i he
    subst he
    obtain ⟨q, b, h1, h2, h3, h4⟩ := rowG_inv hx
    obtain ⟨k1, k2, k3⟩ := row_fit hl hs h2 h4
    subst h1
    unfold withIds at h
    rcases hi : idsG r zeroV.ids with ⟨ids, e2, r2⟩
    dsimp only at h
    rw [hi] at h
    simp only [Prod.mk.injEq] at h
    obtain ⟨rfl, rfl, rfl⟩ := h
    obtain ⟨_, i2, i3⟩ := idsG_inv hi
    have i2 : ids = r := by simpa [zeroV] using i2
    subst i2
    have hsub : ∀ w ∈ ids, w ∈ l := fun w hw => by rw [h2]; exact List.mem_append_right _ hw
    refine ⟨good_cons (good_of _ (by decide)) (fun w hw => ?_), ?_, okS (h3 := by simpa [zeroV] using k1) (h4 := by simpa [zeroV] using k2) (h5 := k3) (h8 := ?_) (h9 := fun x hx => hs x (hsub x hx))⟩
    · rw [h2] at hw
      rcases List.mem_append.1 hw with hw | hw
      · exact h3 w hw
      · exact i3 w hw
    · have := J_flat ([kRup] :: (pieceT q ++ [geS, b, semiS]) :: ids.map fun x => [x]) (fun y hy => by
        simp only [List.mem_cons, List.mem_map] at hy
        rcases hy with rfl | rfl | ⟨x, _, rfl⟩ <;> simp)
      rw [List.map_cons, List.map_cons, J_one, singles_J, List.flatten_cons, List.flatten_cons, singles_flat, ← rowT_J] at this
      rw [h2]
      refine Eq.trans ?_ this
      simp [textT, textW, J, zeroV]
    · have := congrArg List.length h2
      simp at this
      show ids.length ≤ _
      omega
  · rename_i he
    simp only [Prod.mk.injEq] at h
    exact absurd h.1 he
theorem sol_rt {k : Int} {w : ByteArray} (hk : (k = 5 ∧ w = kSoli) ∨ (k = 11 ∧ w = kSolx)) {l : List ByteArray} {v : StepV} (hl : l.length ≤ 1000000) (h : solG k l zeroV = (0, [], v)) : RT (w :: l) v := by
  unfold solG at h
  rcases hx : litsG l zeroV.lits with ⟨ls, e, r⟩
  rw [hx] at h
  simp only [Prod.mk.injEq] at h
  obtain ⟨rfl, rfl, rfl⟩ := h
  obtain ⟨_, q, h1, h2, h3, h4⟩ := litsG_inv hx
  have h1 : ls = q := by simpa [zeroV] using h1
  subst h1
  refine ⟨good_cons ?_ h3, ?_, okS (h6 := ?_) (h7 := h4)⟩
  · rcases hk with ⟨_, rfl⟩ | ⟨_, rfl⟩ <;> exact good_of _ (by decide)
  · rcases hk with ⟨rfl, rfl⟩ | ⟨rfl, rfl⟩ <;> simp [textT, textW, J, h2]
  · have := congrArg List.length h2
    simp [litsT] at this
    show ls.length ≤ _
    omega
theorem same_rt {l : List ByteArray} {v : StepV} (hl : l.length ≤ 1000000) (hs : ∀ w ∈ l, w.size ≤ 10000000) (h : sameG l zeroV = (0, [], v)) : RT (kE :: l) v := by
  unfold sameG at h
  rcases hn : numG 1 l with ⟨x, e, r⟩
  rw [hn] at h
  dsimp only at h
  split at h
  · rename_i he
    subst he
    obtain ⟨rfl, hg⟩ := numG_inv hn
    obtain ⟨q, b, h1, h2, h3, h4⟩ := rowG_inv h
    rw [List.append_nil] at h2
    obtain ⟨k1, k2, k3⟩ := row_fit (rest := []) (by simp at hl; omega) (fun w hw => hs w (by simp [hw])) (by rw [List.append_nil]; exact h2) h4
    subst h1
    refine ⟨good_cons (good_of _ (by decide)) (good_cons hg (by rw [h2]; exact h3)), ?_, okS (h3 := by simpa [zeroV] using k1) (h4 := by simpa [zeroV] using k2) (h5 := k3) (h9 := fun y hy => by
      obtain rfl : y = x := by simpa using hy
      exact hs y (by simp))⟩
    have := J_flat [[kE], [x], pieceT q ++ [geS, b, semiS]] (fun y hy => by
        simp only [List.mem_cons, List.not_mem_nil, or_false] at hy
        rcases hy with rfl | rfl | rfl <;> simp)
    simp only [List.map_cons, List.map_nil, J_one, List.flatten_cons, List.flatten_nil, ← rowT_J, List.append_nil] at this
    rw [h2]
    refine Eq.trans ?_ this
    simp [textT, textW, J, zeroV]
  · rename_i he
    simp only [Prod.mk.injEq] at h
    exact absurd h.1 he
theorem del_rt {l : List ByteArray} {v : StepV} (hl : l.length ≤ 1000000) (hs : ∀ w ∈ l, w.size ≤ 10000000) (h : delG l zeroV = (0, [], v)) : RT (kDel :: l) v := by
  unfold delG at h
  rcases hx : exactG l idWords with ⟨r, e⟩
  rw [hx] at h
  dsimp only at h
  split at h
  · rename_i he
    subst he
    have hl2 := exactG_inv hx
    rcases hn : numG 1 r with ⟨x, e, r2⟩
    rw [hn] at h
    dsimp only at h
    split at h
    · rename_i he
      subst he
      obtain ⟨rfl, hg⟩ := numG_inv hn
      unfold withIds at h
      rcases hi : idsG r2 [x] with ⟨ids, e2, r3⟩
      rw [hi] at h
      simp only [Prod.mk.injEq] at h
      obtain ⟨rfl, rfl, rfl⟩ := h
      obtain ⟨_, i2, i3⟩ := idsG_inv hi
      subst hl2
      have i2 : ids = x :: r2 := by simpa using i2
      subst i2
      refine ⟨good_cons (good_of _ (by decide)) (fun w hw => ?_), ?_, okS (h8 := by simp at hl ⊢; omega) (h9 := fun y hy => hs y (List.mem_append_right _ hy))⟩
      · rcases List.mem_append.1 hw with hw | hw
        · exact good_all idWords (by decide) w hw
        · exact good_cons hg i3 w hw
      · simp [textT, textW, J, zeroV, idWords]
    · rename_i he
      simp only [Prod.mk.injEq] at h
      exact absurd h.1 he
  · rename_i he
    simp only [Prod.mk.injEq] at h
    exact absurd h.1 he
theorem J_cons (a b : ByteArray) (l : List ByteArray) : J (a :: b :: l) = a ++ ((⟨#[32]⟩ : ByteArray) ++ J (b :: l)) := by
  apply bytes_inj
  rw [J_data]
  simp only [List.map_cons, join_len_cons, ByteArray.data_append, Array.toList_append, J_data]
  rfl
theorem concl_text (v : StepV) (hv : v.kind = 9) (l : List ByteArray) (hl : l ≠ []) (h : endT v = J l) : textT v = J (kConc :: l) := by
  have := J_flat [[kConc], l] (fun y hy => by
    simp only [List.mem_cons, List.not_mem_nil, or_false] at hy
    rcases hy with rfl | rfl
    · simp
    · exact hl)
  simp only [List.map_cons, List.map_nil, J_one, List.flatten_cons, List.flatten_nil, List.append_nil, List.singleton_append] at this
  rw [← this, ← h]
  simp [textT, textW, J, hv]
theorem concl_rt {l : List ByteArray} {v : StepV} (hs : ∀ w ∈ l, w.size ≤ 10000000) (h : conclG l zeroV = (0, [], v)) : RT (kConc :: l) v := by
  cases l with
  | nil => simp [conclG] at h
  | cons w l =>
    unfold conclG at h
    dsimp only at h
    split at h
    · rename_i hw
      simp only [Prod.mk.injEq, true_and] at h
      obtain ⟨rfl, rfl⟩ := h
      subst hw
      exact ⟨good_all _ (by decide), concl_text _ rfl _ (by simp) (by rw [J_one]; rfl), okS⟩
    split at h
    · rename_i hw
      simp only [Prod.mk.injEq, true_and] at h
      obtain ⟨rfl, rfl⟩ := h
      subst hw
      exact ⟨good_all _ (by decide), concl_text _ rfl _ (by simp) (by rw [J_one]; rfl), okS⟩
    split at h
    · rename_i hw
      subst hw
      rcases idG_inv h with ⟨rfl, rfl⟩ | ⟨x, rfl, hg, rfl⟩
      · exact ⟨good_all _ (by decide), concl_text _ rfl _ (by simp) (by rw [J_one]; rfl), okS⟩
      · exact ⟨good_cons (good_of _ (by decide)) (good_cons (good_of _ (by decide)) (good_cons (good_of _ (by decide)) (good_cons hg (by simp)))), concl_text _ rfl _ (by simp) (by
          rw [J_cons, J_two]
          apply bytes_inj
          simp [endT, idT, zeroV, unsatS, colonS]), okS (h9 := fun y hy => by
          obtain rfl : y = x := by simpa using hy
          exact hs y (by simp))⟩
    split at h
    · rename_i hw
      subst hw
      unfold allG at h
      rcases hn : numG 0 l with ⟨n, e, r⟩
      rw [hn] at h
      dsimp only at h
      split at h
      · rename_i he
        subst he
        obtain ⟨rfl, hg⟩ := numG_inv hn
        split at h
        · simp at h
        · rename_i hr
          rcases idG_inv h with ⟨_, h2⟩ | ⟨x, rfl, hg2, rfl⟩
          · exact absurd h2.symm hr
          · exact ⟨good_cons (good_of _ (by decide)) (good_cons (good_of _ (by decide)) (good_cons hg (good_cons (good_of _ (by decide)) (good_cons hg2 (by simp))))), concl_text _ rfl _ (by simp) (by
              rw [J_cons, J_cons, J_two]
              apply bytes_inj
              simp [endT, idT, zeroV, allS, colonS]), okS (h9 := fun y hy => by
              obtain rfl : y = x := by simpa using hy
              exact hs y (by simp)) (h12 := hs n (by simp))⟩
      · rename_i he
        simp only [Prod.mk.injEq] at h
        exact absurd h.1 he
    split at h
    · rename_i hw
      subst hw
      unfold boundsG at h
      rcases hn : numG (-1) l with ⟨n, e, r⟩
      rw [hn] at h
      dsimp only at h
      split at h
      · rename_i he
        subst he
        obtain ⟨rfl, hg⟩ := numG_inv hn
        unfold upG at h
        rcases hi : idG r { zeroV with kind := 9, n6 := 5, s7 := n } with ⟨e2, r2, v2⟩
        rw [hi] at h
        dsimp only at h
        split at h
        · rename_i he2
          subst he2
          rcases hn2 : numG (-1) r2 with ⟨n2, e3, r3⟩
          rw [hn2] at h
          simp only [Prod.mk.injEq] at h
          obtain ⟨rfl, rfl, rfl⟩ := h
          obtain ⟨rfl, hg3⟩ := numG_inv hn2
          rcases idG_inv hi with ⟨rfl, rfl⟩ | ⟨x, rfl, hg2, rfl⟩
          · exact ⟨good_cons (good_of _ (by decide)) (good_cons (good_of _ (by decide)) (good_cons hg (good_cons hg3 (by simp)))), concl_text _ rfl _ (by simp) (by
              rw [J_cons, J_two]
              apply bytes_inj
              simp [endT, idT, zeroV, boundsS]), okS (h11 := hs n (by simp)) (h12 := hs n2 (by simp))⟩
          · exact ⟨good_cons (good_of _ (by decide)) (good_cons (good_of _ (by decide)) (good_cons hg (good_cons (good_of _ (by decide)) (good_cons hg2 (good_cons hg3 (by simp)))))), concl_text _ rfl _ (by simp) (by
              rw [J_cons, J_cons, J_cons, J_two]
              apply bytes_inj
              simp [endT, idT, zeroV, boundsS, colonS]), okS (h9 := fun y hy => by
              obtain rfl : y = x := by simpa using hy
              exact hs y (by simp)) (h11 := hs n (by simp)) (h12 := hs n2 (by simp))⟩
        · rename_i he2
          simp only [Prod.mk.injEq] at h
          exact absurd h.1 he2
      · rename_i he
        simp only [Prod.mk.injEq] at h
        exact absurd h.1 he
    · simp at h
end Go.Proofs.YtcpdgnkhkdddhaaGreatDoor.Aw

set_option maxRecDepth 100000
set_option linter.unusedVariables false
set_option linter.unusedSimpArgs false
namespace Go.Proofs.YtcpdgnkhkdddhaaGreatDoor.Aw
open Go Go.RowKit

theorem finG_inv {r : RetG} {v : StepV} (h : finG r = (v, 0)) : r = (0, [], v) := by
  obtain ⟨e, l, v'⟩ := r
  unfold finG at h
  simp only [Prod.mk.injEq] at h
  obtain ⟨rfl, h⟩ := h
  split at h
  · rename_i he
    split at h
    · rename_i hl
      rw [he, hl]
    · simp at h
  · rename_i he
    exact absurd h he
theorem parse_text {ws : List ByteArray} {v : StepV} (hl : ws.length ≤ 1000000) (hs : ∀ w ∈ ws, w.size ≤ 10000000) (h : parseW ws = (v, 0)) : RT ws v ∨ v = { zeroV with kind := 7 } := by
  cases ws with
  | nil =>
    simp only [parseW, Prod.mk.injEq] at h
    exact .inr h.1.symm
  | cons w l =>
    have hl' : l.length ≤ 1000000 := by simp at hl; omega
    have hs' : ∀ x ∈ l, x.size ≤ 10000000 := fun x hx => hs x (by simp [hx])
    unfold parseW at h
    dsimp only at h
    cases ht : tabG w with
    | none => rw [ht] at h; simp at h
    | some f =>
      rw [ht] at h
      have h := finG_inv h
      unfold tabG at ht
      by_cases k1 : w = kHead
      · rw [if_pos k1] at ht; cases ht; subst k1
        obtain ⟨rfl, rfl⟩ := fix_rt (w := kHead) h
        exact .inl ⟨good_all _ (by decide), by decide +kernel, okS⟩
      rw [if_neg k1] at ht
      by_cases k1 : w = kF
      · rw [if_pos k1] at ht; cases ht; subst k1
        exact .inl (count_rt hs' h)
      rw [if_neg k1] at ht
      by_cases k1 : w = kPol
      · rw [if_pos k1] at ht; cases ht; subst k1
        exact .inl (pol_rt hl' hs' h)
      rw [if_neg k1] at ht
      by_cases k1 : w = kRup
      · rw [if_pos k1] at ht; cases ht; subst k1
        exact .inl (rup_rt hl' hs' h)
      rw [if_neg k1] at ht
      by_cases k1 : w = kSoli
      · rw [if_pos k1] at ht; cases ht; subst k1
        exact .inl (sol_rt (.inl ⟨rfl, rfl⟩) hl' h)
      rw [if_neg k1] at ht
      by_cases k1 : w = kSolx
      · rw [if_pos k1] at ht; cases ht; subst k1
        exact .inl (sol_rt (.inr ⟨rfl, rfl⟩) hl' h)
      rw [if_neg k1] at ht
      by_cases k1 : w = kE
      · rw [if_pos k1] at ht; cases ht; subst k1
        exact .inl (same_rt hl' hs' h)
      rw [if_neg k1] at ht
      by_cases k1 : w = kDel
      · rw [if_pos k1] at ht; cases ht; subst k1
        exact .inl (del_rt hl' hs' h)
      rw [if_neg k1] at ht
      by_cases k1 : w = kStar
      · rw [if_pos k1] at ht; cases ht; subst k1
        simp only [noteG, Prod.mk.injEq, true_and] at h
        exact .inr h.symm
      rw [if_neg k1] at ht
      by_cases k1 : w = kOut
      · rw [if_pos k1] at ht; cases ht; subst k1
        obtain ⟨rfl, rfl⟩ := fix_rt (w := kOut) h
        exact .inl ⟨good_all _ (by decide), by decide +kernel, okS⟩
      rw [if_neg k1] at ht
      by_cases k1 : w = kConc
      · rw [if_pos k1] at ht; cases ht; subst k1
        exact .inl (concl_rt hs' h)
      rw [if_neg k1] at ht
      by_cases k1 : w = kEnd
      · rw [if_pos k1] at ht; cases ht; subst k1
        obtain ⟨rfl, rfl⟩ := fix_rt (w := kEnd) h
        exact .inl ⟨good_all _ (by decide), by decide +kernel, okS⟩
      rw [if_neg k1] at ht
      cases ht
theorem spans_sum (p : Nat → Bool) (s : ByteArray) : ∀ (f pos : Nat) (st : Option Nat) (acc : List (Nat × Nat)), (∀ a, st = some a → a ≤ pos) →
    ((Lib.closeSpans s (Lib.spansFromP p s f pos st acc)).map fun x => x.2 - x.1).sum ≤ (acc.map fun x => x.2 - x.1).sum + (s.size - st.getD pos)
  | 0, pos, st, acc, h => by
    simp only [Lib.spansFromP, Lib.closeSpans]
    cases st <;> simp
  | f + 1, pos, st, acc, h => by
    unfold Lib.spansFromP
    split
    · rename_i hp
      split
      · cases st with
        | none =>
          refine Nat.le_trans (spans_sum p s f _ none acc (fun a e => by cases e)) ?_
          simp only [Option.getD_none]; omega
        | some a =>
          have ha := h a rfl
          refine Nat.le_trans (spans_sum p s f _ none _ (fun a e => by cases e)) ?_
          simp only [Option.getD_none, Option.getD_some, List.map_append, List.map_cons, List.map_nil, List.sum_append, List.sum_cons, List.sum_nil]; omega
      · cases st with
        | none =>
          refine Nat.le_trans (spans_sum p s f _ (some pos) acc (fun a e => by cases e; omega)) ?_
          simp only [Option.getD_none, Option.getD_some]; omega
        | some a =>
          have ha := h a rfl
          refine Nat.le_trans (spans_sum p s f _ (some a) acc (fun b e => by cases e; omega)) ?_
          simp only [Option.getD_some]; omega
    · simp only [Lib.closeSpans]
      cases st <;> simp
theorem wordsL_sum (s : ByteArray) : sumS (wordsL s) ≤ s.size := by
  unfold wordsL Lib.goFieldsP Lib.spansOfP sumS
  have h := spans_sum blankR s s.size 0 none [] (fun a e => by cases e)
  simp only [List.map_nil, List.sum_nil, Option.getD_none, Nat.sub_zero, Nat.zero_add] at h
  refine Nat.le_trans ?_ h
  generalize Lib.closeSpans s (Lib.spansFromP blankR s s.size 0 none []) = l
  induction l with
  | nil => simp
  | cons x l ih =>
    simp only [List.map_cons, List.sum_cons]
    have : (s.extract x.1 x.2).size ≤ x.2 - x.1 := by rw [ByteArray.size_extract]; omega
    omega
theorem joinTail_no : ∀ (ls : List (List UInt8)), (∀ l ∈ ls, GoodL l) → ∀ c ∈ Lib.joinTail [32] ls, c ≠ 10
  | [], _, c, hc => by simp [Lib.joinTail] at hc
  | l :: ls, h, c, hc => by
    have hc : c = 32 ∨ c ∈ l ∨ c ∈ Lib.joinTail [32] ls := by simpa [Lib.joinTail, or_assoc] using hc
    rcases hc with rfl | hc | hc
    · decide
    · have := (h l (by simp)).2 c hc
      intro e; subst e
      unfold GoodB at this; revert this; decide
    · exact joinTail_no ls (fun x hx => h x (by simp [hx])) c hc
theorem J_no (ws : List ByteArray) (h : ∀ w ∈ ws, GoodW w) : hasNL (J ws) = false := by
  apply hasNL_of
  rw [J_data]
  cases ws with
  | nil => simp [Lib.join_nil]
  | cons w ws =>
    intro c hc
    rw [List.map_cons, Lib.join_cons] at hc
    rcases List.mem_append.1 hc with hc | hc
    · have := (h w (by simp)).2 c hc
      intro e; subst e
      unfold GoodB at this; revert this; decide
    · exact joinTail_no _ (fun l hl => by
        obtain ⟨y, hy, rfl⟩ := List.mem_map.1 hl
        exact h y (by simp [hy])) c hc
theorem parseP_star : parseP kStar = ({ zeroV with kind := 7 }, 0) := by
  have h1 : wordsL kStar = [kStar] := by
    have := wordsL_join [kStar] (good_all _ (by decide))
    rwa [show joinS [kStar] spaceS = kStar from J_one kStar] at this
  unfold parseP
  rw [h1]
  decide +kernel
theorem parse_again {s : ByteArray} (hsz : s.size ≤ 400000) (h : (parseP s).2 = 0) :
    parseP (textT (parseP s).1) = ((parseP s).1, 0) ∧ hasNL (textT (parseP s).1) = false ∧ (textT (parseP s).1).size ≤ 2 * s.size + 2 ∧ OkStep (parseP s).1 := by
  have hw : parseW (wordsL s) = ((parseP s).1, 0) := by
    unfold parseP at h ⊢
    split
    · rename_i he
      exact Prod.ext rfl he
    · rename_i he
      rw [if_neg he] at h
      exact absurd h he
  have hl := wordsL_len s
  have hsum := wordsL_sum s
  generalize (parseP s).1 = v at *
  rcases parse_text (by omega) (fun w hw => Nat.le_trans (wordsL_size s w hw) (by omega)) hw with hr | rfl
  · obtain ⟨r1, r2, r3⟩ := hr
    rw [r2]
    refine ⟨?_, J_no _ r1, ?_, r3⟩
    · unfold parseP
      rw [show wordsL (J (wordsL s)) = wordsL s from wordsL_join _ r1, hw]
      rfl
    · have := joinS_sum (wordsL s) spaceS
      have e : spaceS.size = 1 := rfl
      rw [e] at this
      unfold J
      omega
  · have e : textT { zeroV with kind := 7 } = kStar := by decide +kernel
    rw [e]
    exact ⟨parseP_star, by decide +kernel, by show 1 ≤ _; omega, okS⟩
/-- A log that is read is written, step by step, and no longer than so. -/
theorem log_again {ls : List ByteArray} {l : List StepV} (hsz : ∀ s ∈ ls, s.size ≤ 400000) (h : readL ls [] = (l, none)) : l.length = ls.length ∧ (∀ v ∈ l, OkStep v ∧ (textT v).size ≤ 8999999 ∧ printP v = (textT v, 0)) ∧ sumS (l.map textT) ≤ 2 * sumS ls + 2 * ls.length := by
  obtain ⟨h1, h2⟩ := readL_none ls [] (by rw [h])
  rw [h] at h1
  simp only [List.nil_append] at h1
  subst h1
  refine ⟨by simp, fun v hv => ?_, ?_⟩
  · obtain ⟨s, hs, rfl⟩ := List.mem_map.1 hv
    obtain ⟨a, b, c, d⟩ := parse_again (hsz s hs) (h2 s hs)
    have := hsz s hs
    exact ⟨d, by omega, printP_of a b⟩
  · clear h
    induction ls with
    | nil => simp [sumS]
    | cons s ls ih =>
      have ih := ih (fun x hx => hsz x (by simp [hx])) (fun x hx => h2 x (by simp [hx]))
      obtain ⟨a, b, c, d⟩ := parse_again (hsz s (by simp)) (h2 s (by simp))
      simp only [sumS, List.map_cons, List.sum_cons, List.length_cons] at ih ⊢
      omega
end Go.Proofs.YtcpdgnkhkdddhaaGreatDoor.Aw

set_option maxRecDepth 100000
set_option linter.unusedVariables false
set_option linter.unusedSimpArgs false
namespace Go.Proofs.YtcpdgnkhkdddhaaGreatDoor.Aw
open Go Go.RowKit
variable {G : Nat → Option (List AV)}

def cntSs : Int → List StepV → Int
  | x, [] => x
  | x, v :: l => if 0 ≤ x then cntSs (cntS x v) l else x
theorem Steps_c {S : St} {b : Nat} {x : Int} (h : CntAt S b x) (hx : OkC x) (l : List StepV) (hs : ∀ v ∈ l, SzStep v) : Triple P (C G) 8 [.ref b 0, .sl .any 10 (rowsT l)] S fun o S' => o = .ret (.tu []) ∧ S' = S.upd b (.obj 111 [.int .i64 (cntSs x l)]) := by
  refine triple_of_awp (hT G) hm Tryz.func8 rfl (by decide +kernel) rfl (by decide +kernel) (by show 2 ≤ _; decide +kernel) rfl ?_
  conv => whnf
  refine ⟨⟨Nat × Int, fun z => [(0, .ref b 0), (1, .sl .any 10 (rowsT l)), (4, .int .i64 (z.1 : Int))],
    fun z S' => S' = S.upd b (.obj 111 [.int .i64 z.2]) ∧ OkC z.2 ∧ z.1 ≤ l.length ∧ cntSs z.2 (l.drop z.1) = cntSs x l, fun z => l.length - z.1⟩,
    ⟨(0, x), ⟨rfl, ⟨rfl, rfl⟩, rfl, trivial⟩, _, St.leW_refl _, (St.upd_id h).symm, hx, by omega, rfl⟩, ?_⟩
  rintro ⟨i, y⟩ S' ⟨rfl, hy, hi, he⟩
  dsimp only at hy hi he
  have h' : CntAt (S.upd b (.obj 111 [.int .i64 y])) b y := St.upd_same _ _ _
  have hok := COk_ok (G := G) h'
  conv => whnf
  intro hlen
  conv => whnf
  by_cases hlt : i < l.length
  · rw [show decide ((i : Int) < ((rowsT l).length : Int)) = true from decide_eq_true (by rw [rowsT_len]; omega)]
    have hd : l.drop i = l[i] :: l.drop (i + 1) := List.drop_eq_getElem_cons hlt
    rw [hd] at he
    simp only [cntSs] at he
    have hsi := hs _ (List.getElem_mem hlt)
    have ga : (rowsT l)[(i : Int).toNat]? = some (stepR l[i]) := by simp [rowsT, hlt]
    have htx := Step_c (G := G) h' hy l[i] hsi
    have hyt := cntS_ok hy hsi
    rw [St.upd_upd] at htx
    rw [rowsT_len] at hlen
    conv => whnf
    refine hok.mono ?_
    rintro o T ⟨rfl, rfl⟩
    conv => whnf
    refine split_of (fun hp => ?_) (fun hp => ?_)
    · have hp : 0 ≤ y := of_decide_eq_true hp
      rw [if_pos hp] at he
      have w1 : IntKind.i64.wrap ((i : Int) + 1) = ((i + 1 : Nat) : Int) := wrap_nat (by omega)
      generalize l[i] = e at *
      conv => whnf
      refine ⟨_, ⟨by omega, ga⟩, ?_⟩
      conv => whnf
      refine htx.mono ?_
      rintro o T ⟨rfl, rfl⟩
      conv => whnf
      exact ⟨(i + 1, _), ⟨rfl, ⟨rfl, rfl⟩, congrArg _ w1, trivial⟩, ⟨_, St.leW_refl _, rfl, hyt, hlt, he⟩, by show l.length - (i + 1) < l.length - i; omega⟩
    · have hp : ¬ 0 ≤ y := of_decide_eq_false hp
      rw [if_neg hp] at he
      conv => whnf
      exact ⟨_, _, ⟨rfl, by rw [he]⟩, St.le_refl _, AV.leS_refl _ _ _⟩
  · rw [show decide ((i : Int) < ((rowsT l).length : Int)) = false from decide_eq_false (by rw [rowsT_len]; omega)]
    have hd : l.drop i = [] := List.drop_eq_nil_of_le (by omega)
    rw [hd] at he
    conv => whnf
    exact ⟨_, _, ⟨rfl, by rw [← he]; rfl⟩, St.le_refl _, AV.leS_refl _ _ _⟩
/-! ### Plain -/
def wS1 (s : ByteArray) : Nat := 1 + s.size
def wL (l : List ByteArray) : Nat := (l.map wS1).sum
theorem cnt_back {x n : Int} (h0 : 0 ≤ n) (h : 0 ≤ cnt x n) : 0 ≤ x ∧ cnt x n = x - n := by
  unfold cnt at *
  by_cases hx : 0 ≤ x
  · rw [if_pos hx]; exact ⟨hx, rfl⟩
  · rw [if_neg hx] at h; exact absurd h hx
theorem cntT_back {x : Int} {s : ByteArray} (h : 0 ≤ cntT x s) : 0 ≤ x ∧ cntT x s = x - (wS1 s : Nat) := by
  unfold cntT at *
  obtain ⟨h1, h2⟩ := cnt_back (by omega) h
  obtain ⟨h3, h4⟩ := cnt_back (by omega) h1
  refine ⟨h3, ?_⟩
  rw [h2, h4]
  unfold wS1
  omega
theorem cntL_back : ∀ {l : List ByteArray} {x : Int}, 0 ≤ cntL x l → 0 ≤ x ∧ cntL x l = x - (wL l : Nat)
  | [], x, h => ⟨h, by simp [cntL, wL]⟩
  | s :: l, x, h => by
    unfold cntL at h ⊢
    by_cases hx : 0 ≤ x
    · rw [if_pos hx] at h ⊢
      obtain ⟨h1, h2⟩ := cntL_back h
      obtain ⟨h3, h4⟩ := cntT_back h1
      refine ⟨hx, ?_⟩
      rw [h2, h4]
      simp only [wL, List.map_cons, List.sum_cons]
      omega
    · rw [if_neg hx] at h; exact absurd h hx
/-- The weight of a step. -/
def wt (v : StepV) : Nat := wS1 v.num + wS1 v.s7 + wS1 v.s8 + wL (v.ops.map fun o => o.2.1) + wS1 v.bound + wL (v.pieces.map fun o => o.1) + v.lits.length + wL v.ids
theorem cntS_back {x : Int} {v : StepV} (h : 0 ≤ cntS x v) : 0 ≤ x ∧ cntS x v = x - (wt v : Nat) := by
  unfold cntS cntRow at *
  obtain ⟨h1, e1⟩ := cntL_back h
  obtain ⟨h2, e2⟩ := cnt_back (by omega) h1
  obtain ⟨h3, e3⟩ := cntL_back h2
  obtain ⟨h4, e4⟩ := cntT_back h3
  obtain ⟨h5, e5⟩ := cntL_back h4
  obtain ⟨h6, e6⟩ := cntT_back h5
  obtain ⟨h7, e7⟩ := cntT_back h6
  obtain ⟨h8, e8⟩ := cntT_back h7
  refine ⟨h8, ?_⟩
  rw [e1, e2, e3, e4, e5, e6, e7, e8]
  have : wL (v.ids.map fun o => (fun s : ByteArray => s) o) = wL v.ids := by congr 1; exact List.map_id v.ids
  unfold wt
  omega
def wts (l : List StepV) : Nat := (l.map wt).sum
theorem cntSs_back : ∀ {l : List StepV} {x : Int}, 0 ≤ cntSs x l → 0 ≤ x ∧ cntSs x l = x - (wts l : Nat)
  | [], x, h => ⟨h, by simp [cntSs, wts]⟩
  | s :: l, x, h => by
    unfold cntSs at h ⊢
    by_cases hx : 0 ≤ x
    · rw [if_pos hx] at h ⊢
      obtain ⟨h1, h2⟩ := cntSs_back h
      obtain ⟨h3, h4⟩ := cntS_back h1
      refine ⟨hx, ?_⟩
      rw [h2, h4]
      simp only [wts, List.map_cons, List.sum_cons]
      omega
    · rw [if_neg hx] at h; exact absurd h hx
theorem wL_mem {l : List ByteArray} : ∀ s ∈ l, s.size ≤ wL l := by
  induction l with
  | nil => intro s hs; cases hs
  | cons x l ih =>
    intro s hs
    have e : wL (x :: l) = wS1 x + wL l := by simp [wL]
    rcases List.mem_cons.1 hs with rfl | hs
    · unfold wS1 at e; omega
    · have := ih s hs; omega
theorem wL_len (l : List ByteArray) : l.length ≤ wL l := by
  induction l with
  | nil => simp
  | cons x l ih =>
    have e : wL (x :: l) = wS1 x + wL l := by simp [wL]
    unfold wS1 at e
    simp only [List.length_cons]
    omega
/-- Integers of a step are an int's. -/
structure IntStep (v : StepV) : Prop where
  ops : ∀ o ∈ v.ops, okI o.2.2
  pieces : ∀ p ∈ v.pieces, okI p.2
  lits : ∀ z ∈ v.lits, okI z
theorem ok_of_wt {v : StepV} (h : wt v ≤ 200000) (hi : IntStep v) : OkStep v := by
  unfold wt at h
  have h1 := wL_len (v.ops.map fun o => o.2.1)
  have h2 := wL_len (v.pieces.map fun o => o.1)
  have h3 := wL_len v.ids
  rw [List.length_map] at h1 h2
  have e1 : v.num.size ≤ wS1 v.num := by unfold wS1; omega
  have e2 : v.s7.size ≤ wS1 v.s7 := by unfold wS1; omega
  have e3 : v.s8.size ≤ wS1 v.s8 := by unfold wS1; omega
  have e4 : v.bound.size ≤ wS1 v.bound := by unfold wS1; omega
  refine ⟨⟨by omega, fun o ho => ⟨hi.ops o ho, ?_⟩⟩, ⟨by omega, fun p hp => ⟨hi.pieces p hp, ?_⟩, by omega⟩, ⟨by omega, hi.lits⟩, ⟨by omega, fun x hx => ?_⟩, by omega, by omega, by omega⟩
  · have := wL_mem (l := v.ops.map fun o => o.2.1) o.2.1 (List.mem_map.2 ⟨o, ho, rfl⟩); omega
  · have := wL_mem (l := v.pieces.map fun o => o.1) p.1 (List.mem_map.2 ⟨p, hp, rfl⟩); omega
  · have := wL_mem x hx; omega
theorem opT_len (o : OpV) (h : okI o.2.2) : (opT o).size ≤ o.2.1.size + 25 := by
  have hl := litT_size o.2.2 h
  unfold opT
  split
  · omega
  split
  · omega
  split
  · show 1 ≤ _; omega
  split
  · rw [ba_size_append]; show _ + 2 ≤ _; omega
  split
  · rw [ba_size_append]; show _ + 2 ≤ _; omega
  split
  · show 1 ≤ _; omega
  split
  · rw [ba_size_append]; show _ + 2 ≤ _; omega
  · exact Nat.zero_le _
theorem ops_sum (l : List OpV) (h : ∀ o ∈ l, okI o.2.2) : sumS (l.map opT) + l.length ≤ 26 * wL (l.map fun o => o.2.1) := by
  induction l with
  | nil => simp [sumS]
  | cons o l ih =>
    have ih := ih fun x hx => h x (by simp [hx])
    have h1 := opT_len o (h o (by simp))
    have e : wL ((o :: l).map fun o => o.2.1) = wS1 o.2.1 + wL (l.map fun o => o.2.1) := by simp [wL]
    rw [e]
    unfold wS1
    simp only [List.map_cons, sumS_cons, List.length_cons] at ih ⊢
    omega
theorem pieces_sum (l : List (ByteArray × Int)) (h : ∀ o ∈ l, okI o.2) : sumS (pieceT l) + (pieceT l).length ≤ 26 * wL (l.map fun o => o.1) := by
  induction l with
  | nil => simp [sumS, pieceT]
  | cons o l ih =>
    have ih := ih fun x hx => h x (by simp [hx])
    have h1 := litT_size o.2 (h o (by simp))
    have e : wL ((o :: l).map fun o => o.1) = wS1 o.1 + wL (l.map fun o => o.1) := by simp [wL]
    have e2 : pieceT (o :: l) = o.1 :: litT o.2 :: pieceT l := by simp [pieceT]
    rw [e, e2]
    unfold wS1
    simp only [sumS_cons, List.length_cons] at ih ⊢
    omega
theorem lits_sum (l : List Int) (h : ∀ z ∈ l, okI z) : sumS (litsT l) + (litsT l).length ≤ 26 * l.length := by
  induction l with
  | nil => simp [sumS, litsT]
  | cons z l ih =>
    have ih := ih fun x hx => h x (by simp [hx])
    have h1 := litT_size z (h z (by simp))
    have e2 : litsT (z :: l) = litT z :: litsT l := by simp [litsT]
    rw [e2]
    simp only [sumS_cons, List.length_cons] at ih ⊢
    omega
theorem ids_sum (l : List ByteArray) : sumS l + l.length ≤ 26 * wL l := by
  induction l with
  | nil => simp [sumS]
  | cons x l ih =>
    have e : wL (x :: l) = wS1 x + wL l := by simp [wL]
    rw [e]
    unfold wS1
    simp only [sumS_cons, List.length_cons] at ih ⊢
    omega
theorem endT_len (v : StepV) : (endT v).size ≤ 20 + v.s7.size + v.s8.size + wL v.ids := by
  have hid : (idT v.ids).size ≤ 3 + wL v.ids := by
    cases hv : v.ids with
    | nil => decide
    | cons x l =>
      have e : wL (x :: l) = wS1 x + wL l := by simp [wL]
      unfold idT
      rw [ba_size_append, e]
      unfold wS1
      show 3 + _ ≤ _
      omega
  unfold endT
  split
  · show 4 ≤ _; omega
  split
  · show 3 ≤ _; omega
  split
  · rw [ba_size_append]; show 5 + _ ≤ _; omega
  split
  · rw [ba_size_append, ba_size_append]; show 4 + _ + _ ≤ _; omega
  split
  · rw [ba_size_append, ba_size_append, ba_size_append, ba_size_append]; show 7 + _ + _ + 1 + _ ≤ _; omega
  · exact Nat.zero_le _
theorem rowT_len (ps : List (ByteArray × Int)) (bound : ByteArray) (h : ∀ o ∈ ps, okI o.2) : (rowT ps bound).size ≤ 26 * wL (ps.map fun o => o.1) + bound.size + 6 := by
  have h1 := joinS_sum (pieceT ps ++ [geS, bound, semiS]) spaceS
  have h2 := pieces_sum ps h
  have e : spaceS.size = 1 := rfl
  have e2 : geS.size = 2 := rfl
  have e3 : semiS.size = 1 := rfl
  rw [e, sumS_append] at h1
  simp only [sumS_cons, sumS_nil, List.length_append, List.length_cons, List.length_nil, e2, e3] at h1
  unfold rowT
  omega
set_option maxHeartbeats 2000000 in
theorem textT_wt {v : StepV} (hi : IntStep v) : (textT v).size ≤ 26 * wt v + 60 := by
  have h0 := joinS_sum (textW v) spaceS
  have e : spaceS.size = 1 := rfl
  rw [e] at h0
  have h1 : sumS (v.ops.map opT) + v.ops.length ≤ 26 * wL (v.ops.map fun o => o.2.1) := ops_sum v.ops hi.ops
  have h2 := rowT_len v.pieces v.bound hi.pieces
  have h3 := lits_sum v.lits hi.lits
  have h4 := ids_sum v.ids
  have h5 := endT_len v
  have e1 : w1S.size = 32 := rfl
  have e2 : kF.size = 1 := rfl
  have e3 : kPol.size = 3 := rfl
  have e4 : kRup.size = 3 := rfl
  have e5 : kE.size = 1 := rfl
  have e6 : kSoli.size = 4 := rfl
  have e7 : kSolx.size = 4 := rfl
  have e8 : kDel.size = 3 := rfl
  have e9 : kStar.size = 1 := rfl
  have e10 : w8S.size = 11 := rfl
  have e11 : kConc.size = 10 := rfl
  have e12 : w10S.size = 24 := rfl
  have e13 : (⟨#[105, 100]⟩ : ByteArray).size = 2 := rfl
  unfold textT
  refine Nat.le_trans h0 ?_
  unfold wt wS1
  unfold textW
  repeat' split
  all_goals simp only [sumS_append, sumS_cons, sumS_nil, List.length_append, List.length_cons, List.length_nil, List.length_map, e1, e2, e3, e4, e5, e6, e7, e8, e9, e10, e11, e12, e13]
  all_goals omega
theorem wts_mem {l : List StepV} : ∀ v ∈ l, wt v ≤ wts l := by
  induction l with
  | nil => intro s hs; cases hs
  | cons x l ih =>
    intro s hs
    have e : wts (x :: l) = wt x + wts l := by simp [wts]
    rcases List.mem_cons.1 hs with rfl | hs
    · omega
    · have := ih s hs; omega
theorem wts_len (l : List StepV) : 4 * l.length ≤ wts l := by
  induction l with
  | nil => simp
  | cons x l ih =>
    have e : wts (x :: l) = wt x + wts l := by simp [wts]
    have : 4 ≤ wt x := by unfold wt wS1; omega
    simp only [List.length_cons]
    omega
theorem texts_wts (l : List StepV) (hi : ∀ v ∈ l, IntStep v) : sumS (l.map textT) ≤ 26 * wts l + 60 * l.length := by
  induction l with
  | nil => simp [sumS]
  | cons x l ih =>
    have ih := ih fun v hv => hi v (by simp [hv])
    have e : wts (x :: l) = wt x + wts l := by simp [wts]
    have := textT_wt (hi x (by simp))
    rw [e]
    simp only [List.map_cons, sumS_cons, List.length_cons] at ih ⊢
    omega
end Go.Proofs.YtcpdgnkhkdddhaaGreatDoor.Aw

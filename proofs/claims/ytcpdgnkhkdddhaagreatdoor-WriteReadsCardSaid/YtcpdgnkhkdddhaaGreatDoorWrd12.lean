/-
  Package proof, walked: table, parse.
  errors.As at a target **api.Fault: turned from the worked proof of the toy 'toyas'.
  errors.As in the abstract walk's words; proof.Parse.
  The lines of a text: how long, how many.
  proof.Read, walked.
  Package proof, walked: the texts of literals, operations, rows.
  strings.Join's contract; proof.rowText, ends.
  Package proof, walked: ends.
-/
import Derived.Test.YtcpdgnkhkdddhaaGreatDoorWrd11
import Derived.WalkKit
import Derived.LaidEql
import Derived.Stop.Asserts
import Derived.RowKitTokens
import Derived.Test.YtcpdgnkhkdddhaaGreatDoorWrd8
import Derived.Lib.ItoaLen
set_option maxRecDepth 100000
set_option linter.unusedVariables false
set_option linter.unusedSimpArgs false
namespace Go.Proofs.YtcpdgnkhkdddhaaGreatDoor.Aw
open Go Go.RowKit
variable {G : Nat → Option (List AV)}

def kHead : ByteArray := ⟨#[112, 115, 101, 117, 100, 111, 45, 66, 111, 111, 108, 101, 97, 110]⟩
def kF : ByteArray := ⟨#[102]⟩
def kPol : ByteArray := ⟨#[112, 111, 108]⟩
def kRup : ByteArray := ⟨#[114, 117, 112]⟩
def kSoli : ByteArray := ⟨#[115, 111, 108, 105]⟩
def kSolx : ByteArray := ⟨#[115, 111, 108, 120]⟩
def kE : ByteArray := ⟨#[101]⟩
def kDel : ByteArray := ⟨#[100, 101, 108]⟩
def kStar : ByteArray := ⟨#[42]⟩
def kOut : ByteArray := ⟨#[111, 117, 116, 112, 117, 116]⟩
def kConc : ByteArray := ⟨#[99, 111, 110, 99, 108, 117, 115, 105, 111, 110]⟩
def kEnd : ByteArray := ⟨#[101, 110, 100]⟩
def fnAV (f : Nat) : AV := .fn (.func f) [] []
def tabE : List (AV × AV) := [
  (.str kHead, fnAV 143), (.str kF, fnAV 144), (.str kPol, fnAV 145), (.str kRup, fnAV 146),
  (.str kSoli, fnAV 147), (.str kSolx, fnAV 148), (.str kE, fnAV 149), (.str kDel, fnAV 150),
  (.str kStar, fnAV 151), (.str kOut, fnAV 152), (.str kConc, fnAV 153), (.str kEnd, fnAV 154)]
theorem table_ok (S : St) : Triple P (C G) 123 [] S fun o S' => ∃ mr, S mr = none ∧ o = .ret (.mp mr) ∧ S' = S.upd mr (.mapo tabE) := by
  refine triple_of_awp (hT G) hm Tryz.func123 rfl (by decide +kernel) rfl (by decide +kernel) (by show 0 ≤ _; decide +kernel) rfl ?_
  conv => whnf
  intro mr hmr
  conv => whnf
  refine ⟨_, St.upd_same _ _ _, ?_⟩
  conv => whnf
  refine ⟨_, St.upd_same _ _ _, ?_⟩
  conv => whnf
  refine ⟨_, St.upd_same _ _ _, ?_⟩
  conv => whnf
  refine ⟨_, St.upd_same _ _ _, ?_⟩
  conv => whnf
  refine ⟨_, St.upd_same _ _ _, ?_⟩
  conv => whnf
  refine ⟨_, St.upd_same _ _ _, ?_⟩
  conv => whnf
  refine ⟨_, St.upd_same _ _ _, ?_⟩
  conv => whnf
  refine ⟨_, St.upd_same _ _ _, ?_⟩
  conv => whnf
  refine ⟨_, St.upd_same _ _ _, ?_⟩
  conv => whnf
  refine ⟨_, St.upd_same _ _ _, ?_⟩
  conv => whnf
  refine ⟨_, St.upd_same _ _ _, ?_⟩
  conv => whnf
  refine ⟨_, St.upd_same _ _ _, ?_⟩
  conv => whnf
  simp only [St.upd_upd]
  refine ⟨_, _, ⟨mr, hmr, rfl, rfl⟩, St.le_refl _, AV.leS_refl _ _ _⟩
def zeroV : StepV := ⟨0, ByteArray.empty, [], [], ByteArray.empty, [], [], 0, ByteArray.empty, ByteArray.empty⟩
def tabG (w : ByteArray) : Option (List ByteArray → StepV → RetG) :=
  if w = kHead then some (fixG 1 headWords) else if w = kF then some countG else if w = kPol then some polG else if w = kRup then some rupG
  else if w = kSoli then some (solG 5) else if w = kSolx then some (solG 11) else if w = kE then some sameG else if w = kDel then some delG
  else if w = kStar then some noteG else if w = kOut then some (fixG 8 outputWords) else if w = kConc then some conclG else if w = kEnd then some (fixG 10 lastWords) else none
def finG (r : RetG) : StepV × Int := (r.2.2, if r.1 = 0 then (if r.2.1 = [] then 0 else 80) else r.1)
def parseW (ws : List ByteArray) : StepV × Int :=
  match ws with
  | [] => ({ zeroV with kind := 7 }, 0)
  | w :: l => match tabG w with
    | some f => finG (f l zeroV)
    | none => (zeroV, 80)
def stepAV (v : StepV) : AV := .ag [.int .i64 v.kind, .str v.num, .sl .any 3 (rowsO v.ops), .sl .any 2 (rowsP v.pieces), .str v.bound, .sl .any 1 (rowsI v.lits), .sl .any 1 (rowsS v.ids), .int .i64 v.n6, .str v.s7, .str v.s8]
def stepZ : List AV := [.int .i64 0, .str ByteArray.empty, .nils, .nils, .str ByteArray.empty, .nils, .nils, .int .i64 0, .str ByteArray.empty, .str ByteArray.empty]
theorem parse_ok (hG : GS G) (s : ByteArray) (hs : s.size ≤ 8999999) (S : St) :
    Triple P (C G) 94 [.str s] S fun o S' => o = .ret (.tu [stepAV (parseW (wordsL s)).1, errAV (parseW (wordsL s)).2]) ∧ S' = S := by
  have hwo : OkW (wordsL s) := ⟨fun w hw => Nat.le_trans (wordsL_size s w hw) (by omega), Nat.le_trans (wordsL_len s) (by omega)⟩
  have hwords := fun S => words_ok (G := G) s (by omega) S
  generalize wordsL s = ws at *
  refine triple_of_awp (hT G) hm Tryz.func94 rfl (by decide +kernel) rfl (by decide +kernel) (by show 1 ≤ _; decide +kernel) rfl ?_
  refine awp_seq2 fun K hK hQ => ?_
  conv => whnf
  intro b2 hb2
  conv => whnf
  refine hK _ _ ?_
  clear hK hQ K
  refine awp_seq2 fun K hK hQ => ?_
  conv => whnf
  refine (hwords _).mono ?_
  rintro o S' ⟨rfl, rfl⟩
  conv => whnf
  intro rb hrb
  conv => whnf
  refine hK _ _ ?_
  clear hK hQ K
  refine awp_seq2 fun K hK hQ => ?_
  conv => whnf
  refine ⟨_, _, St.upd_same _ _ _, ?_⟩
  conv => whnf
  intro _
  have hle : St.le S ((S.upd b2 (.obj 54 stepZ)).upd rb (.obj 208 (.sl .full 1 (rowsS ws) :: stepZ))) := St.le_upd' (St.le_upd' (St.le_refl _) hb2 _) hrb _
  have q2 : ((S.upd b2 (.obj 54 stepZ)).upd rb (.obj 208 (.sl .full 1 (rowsS ws) :: stepZ))) b2 = some (.obj 54 stepZ) := St.up hrb (St.upd_same _ _ _)
  have hw3 : St.leW ((S.upd b2 (.obj 54 stepZ)).upd rb (rdr ws (stepC zeroV ⟨0, 0, 0, 0⟩))) ((S.upd b2 (.obj 54 stepZ)).upd rb (.obj 208 (.sl .full 1 (rowsS ws) :: stepZ))) := by
    have := St.leW_upd (cs' := .sl .any 1 (rowsS ws) :: stepC zeroV ⟨0, 0, 0, 0⟩) (St.upd_same (S.upd b2 (.obj 54 stepZ)) rb (.obj 208 (.sl .full 1 (rowsS ws) :: stepZ))) ⟨⟨rfl, rfl⟩, rfl, rfl, rfl, rfl, rfl, rfl, rfl, rfl, rfl, rfl, trivial⟩
    rwa [St.upd_upd] at this
  have hat : RdrAt (S.upd b2 (.obj 54 stepZ)) ((S.upd b2 (.obj 54 stepZ)).upd rb (rdr ws (stepC zeroV ⟨0, 0, 0, 0⟩))) rb ws zeroV ⟨0, 0, 0, 0⟩ :=
    ⟨St.le_upd' (St.le_refl _) hrb _, hrb, St.upd_same _ _ _, fun h => absurd h (by decide), fun h => absurd h (by decide), fun h => absurd h (by decide), fun h => absurd h (by decide)⟩
  cases ws with
  | nil =>
    conv => whnf
    refine ⟨_, _, q2, ?_⟩
    conv => whnf
    refine hQ _ _ _ (by simp) ?_
    conv => whnf
    refine ⟨_, _, St.upd_same _ _ _, ?_⟩
    conv => whnf
    refine ⟨_, _, ⟨rfl, rfl⟩, ?_, ⟨⟨rfl, rfl, rfl, rfl, rfl, rfl, rfl, rfl, rfl, rfl, rfl⟩, rfl, rfl⟩⟩
    exact St.le_upd (St.le_upd' (St.le_upd' (St.le_refl _) hb2 _) hrb _) hb2 _
  | cons w l =>
    conv => whnf
    refine hK _ _ ?_
    clear hK hQ K
    have htk := Triple.weakS (rtake_ok (G := G) rb (w :: l) _ _ hat.at_) hw3
    have hat2 := hat.words (ws' := l)
    have hw1 := hwo.suffix (List.suffix_cons w l)
    refine awp_seq2 fun K hK hQ => ?_
    conv => whnf
    refine htk.mono ?_
    rintro o S' ⟨rfl, rfl⟩
    clear htk hw3
    conv => whnf
    refine hK _ _ ?_
    clear hK hQ K
    have hn2 : rb ≠ b2 := (St.ne_upd hrb)
    have hS0 : ∀ S', RdrAt (S.upd b2 (.obj 54 stepZ)) S' rb l zeroV ⟨0, 0, 0, 0⟩ → S' b2 = some (.obj 54 stepZ) := fun S' h => h.le _ _ (St.upd_same _ _ _)
    generalize ((S.upd b2 _).upd rb _).upd rb _ = S1 at hat2 ⊢
    have hz2 : ∀ S' : St, St.le (S.upd b2 (.obj 54 stepZ)) S' → ∀ o, St.le S (S'.upd b2 o) := fun S' h o => St.le_upd (St.le_trans (St.le_upd' (St.le_refl _) hb2 _) h) hb2 _
    have q20 := St.upd_same S b2 (.obj 54 stepZ)
    generalize S.upd b2 (.obj 54 stepZ) = S0 at *
    refine awp_seq2 fun K hK hQ => ?_
    conv => whnf
    refine (table_ok _).mono ?_
    rintro o S' ⟨mr, hmr, rfl, rfl⟩
    have hat3 := hat2.more hmr (.mapo tabE)
    conv => whnf
    refine ⟨_, St.upd_same _ _ _, ?_⟩
    generalize S1.upd mr (.mapo tabE) = S2 at *
    have hv : OkV zeroV := ⟨by decide, by decide, by decide, by decide⟩
    conv => whnf
    refine split_of (fun h => ?_) (fun h => ?_)
    · have hh : w = kHead := of_decide_eq_true h
      have hg : tabG w = some (fixG 1 headWords) := by unfold tabG; rw [if_pos hh]
      have hf := head_ok (G := G) ⟨_, hat3⟩
      have hpw : parseW (w :: l) = finG (fixG 1 headWords l zeroV) := by unfold parseW; dsimp only; rw [hg]
      rw [hpw] at hK hQ
      clear hpw hg
      generalize fixG 1 headWords l zeroV = r at *
      obtain ⟨e, l3, v3⟩ := r
      dsimp only at hf
      unfold finG at hK hQ
      dsimp only at hK hQ
      conv => whnf
      refine hK _ _ ?_
      clear hK hQ K
      refine awp_seq2 fun K hK hQ => ?_
      conv => whnf
      refine hK _ _ ?_
      clear hK hQ K
      refine awp_seq2 fun K hK hQ => ?_
      conv => whnf
      refine hf.mono ?_
      rintro o S' ⟨rfl, t3, hr⟩
      have q2 := hr.le _ _ q20
      have hle := hz2 S' hr.le
      have hrs := hr.at_
      by_cases he : e = 0
      · simp only [if_pos he] at hK hQ
        simp only [errAV, if_pos he]
        conv => whnf
        refine hK _ _ ?_
        clear hK hQ K
        refine awp_seq2 fun K hK hQ => ?_
        conv => whnf
        refine (rend_ok rb l3 _ S' hrs).mono ?_
        rintro o T ⟨rfl, rfl⟩
        cases l3 with
        | nil =>
          simp only [if_true] at hK hQ ⊢
          conv => whnf
          refine hK _ _ ?_
          clear hK hQ K
          conv => whnf
          refine ⟨_, _, hrs, ?_⟩
          conv => whnf
          refine ⟨_, _, q2, ?_⟩
          conv => whnf
          refine ⟨_, _, St.upd_same _ _ _, ?_⟩
          conv => whnf
          exact ⟨_, _, ⟨rfl, rfl⟩, hle _, ⟨⟨rfl, rfl, ⟨rfl, rfl⟩, ⟨rfl, rfl⟩, rfl, ⟨rfl, rfl⟩, ⟨rfl, rfl⟩, rfl, rfl, rfl, rfl⟩, rfl, rfl⟩⟩
        | cons x l3 =>
          simp only [reduceCtorEq, if_false] at hK hQ ⊢
          conv => whnf
          refine hK _ _ ?_
          clear hK hQ K
          conv => whnf
          refine ⟨_, _, hrs, ?_⟩
          conv => whnf
          refine ⟨_, _, q2, ?_⟩
          conv => whnf
          refine ⟨_, _, St.upd_same _ _ _, ?_⟩
          conv => whnf
          exact ⟨_, _, ⟨rfl, rfl⟩, hle _, ⟨⟨rfl, rfl, ⟨rfl, rfl⟩, ⟨rfl, rfl⟩, rfl, ⟨rfl, rfl⟩, ⟨rfl, rfl⟩, rfl, rfl, rfl, rfl⟩, AV.leS_refl _ _ _, rfl⟩⟩
      · simp only [if_neg he] at hK hQ
        simp only [errAV, if_neg he] at hK hQ ⊢
        conv => whnf
        refine hK _ _ ?_
        clear hK hQ K
        refine awp_seq2 fun K hK hQ => ?_
        conv => whnf
        refine hK _ _ ?_
        clear hK hQ K
        conv => whnf
        refine ⟨_, _, hrs, ?_⟩
        conv => whnf
        refine ⟨_, _, q2, ?_⟩
        conv => whnf
        refine ⟨_, _, St.upd_same _ _ _, ?_⟩
        conv => whnf
        exact ⟨_, _, ⟨rfl, rfl⟩, hle _, ⟨⟨rfl, rfl, ⟨rfl, rfl⟩, ⟨rfl, rfl⟩, rfl, ⟨rfl, rfl⟩, ⟨rfl, rfl⟩, rfl, rfl, rfl, rfl⟩, AV.leS_refl _ _ _, rfl⟩⟩
    have n0 : ¬ w = kHead := of_decide_eq_false h
    conv => whnf
    refine split_of (fun h => ?_) (fun h => ?_)
    · have hh : w = kF := of_decide_eq_true h
      have hg : tabG w = some (countG) := by unfold tabG; rw [if_neg n0, if_pos hh]
      have hf := count_ok (G := G) ⟨_, hat3⟩ hw1
      have hpw : parseW (w :: l) = finG (countG l zeroV) := by unfold parseW; dsimp only; rw [hg]
      rw [hpw] at hK hQ
      clear hpw hg
      generalize countG l zeroV = r at *
      obtain ⟨e, l3, v3⟩ := r
      dsimp only at hf
      unfold finG at hK hQ
      dsimp only at hK hQ
      conv => whnf
      refine hK _ _ ?_
      clear hK hQ K
      refine awp_seq2 fun K hK hQ => ?_
      conv => whnf
      refine hK _ _ ?_
      clear hK hQ K
      refine awp_seq2 fun K hK hQ => ?_
      conv => whnf
      refine hf.mono ?_
      rintro o S' ⟨rfl, t3, hr⟩
      have q2 := hr.le _ _ q20
      have hle := hz2 S' hr.le
      have hrs := hr.at_
      by_cases he : e = 0
      · simp only [if_pos he] at hK hQ
        simp only [errAV, if_pos he]
        conv => whnf
        refine hK _ _ ?_
        clear hK hQ K
        refine awp_seq2 fun K hK hQ => ?_
        conv => whnf
        refine (rend_ok rb l3 _ S' hrs).mono ?_
        rintro o T ⟨rfl, rfl⟩
        cases l3 with
        | nil =>
          simp only [if_true] at hK hQ ⊢
          conv => whnf
          refine hK _ _ ?_
          clear hK hQ K
          conv => whnf
          refine ⟨_, _, hrs, ?_⟩
          conv => whnf
          refine ⟨_, _, q2, ?_⟩
          conv => whnf
          refine ⟨_, _, St.upd_same _ _ _, ?_⟩
          conv => whnf
          exact ⟨_, _, ⟨rfl, rfl⟩, hle _, ⟨⟨rfl, rfl, ⟨rfl, rfl⟩, ⟨rfl, rfl⟩, rfl, ⟨rfl, rfl⟩, ⟨rfl, rfl⟩, rfl, rfl, rfl, rfl⟩, rfl, rfl⟩⟩
        | cons x l3 =>
          simp only [reduceCtorEq, if_false] at hK hQ ⊢
          conv => whnf
          refine hK _ _ ?_
          clear hK hQ K
          conv => whnf
          refine ⟨_, _, hrs, ?_⟩
          conv => whnf
          refine ⟨_, _, q2, ?_⟩
          conv => whnf
          refine ⟨_, _, St.upd_same _ _ _, ?_⟩
          conv => whnf
          exact ⟨_, _, ⟨rfl, rfl⟩, hle _, ⟨⟨rfl, rfl, ⟨rfl, rfl⟩, ⟨rfl, rfl⟩, rfl, ⟨rfl, rfl⟩, ⟨rfl, rfl⟩, rfl, rfl, rfl, rfl⟩, AV.leS_refl _ _ _, rfl⟩⟩
      · simp only [if_neg he] at hK hQ
        simp only [errAV, if_neg he] at hK hQ ⊢
        conv => whnf
        refine hK _ _ ?_
        clear hK hQ K
        refine awp_seq2 fun K hK hQ => ?_
        conv => whnf
        refine hK _ _ ?_
        clear hK hQ K
        conv => whnf
        refine ⟨_, _, hrs, ?_⟩
        conv => whnf
        refine ⟨_, _, q2, ?_⟩
        conv => whnf
        refine ⟨_, _, St.upd_same _ _ _, ?_⟩
        conv => whnf
        exact ⟨_, _, ⟨rfl, rfl⟩, hle _, ⟨⟨rfl, rfl, ⟨rfl, rfl⟩, ⟨rfl, rfl⟩, rfl, ⟨rfl, rfl⟩, ⟨rfl, rfl⟩, rfl, rfl, rfl, rfl⟩, AV.leS_refl _ _ _, rfl⟩⟩
    have n1 : ¬ w = kF := of_decide_eq_false h
    conv => whnf
    refine split_of (fun h => ?_) (fun h => ?_)
    · have hh : w = kPol := of_decide_eq_true h
      have hg : tabG w = some (polG) := by unfold tabG; rw [if_neg n0, if_neg n1, if_pos hh]
      have hf := pol_ok (G := G) hG ⟨_, hat3⟩ hw1 hv
      have hpw : parseW (w :: l) = finG (polG l zeroV) := by unfold parseW; dsimp only; rw [hg]
      rw [hpw] at hK hQ
      clear hpw hg
      generalize polG l zeroV = r at *
      obtain ⟨e, l3, v3⟩ := r
      dsimp only at hf
      unfold finG at hK hQ
      dsimp only at hK hQ
      conv => whnf
      refine hK _ _ ?_
      clear hK hQ K
      refine awp_seq2 fun K hK hQ => ?_
      conv => whnf
      refine hK _ _ ?_
      clear hK hQ K
      refine awp_seq2 fun K hK hQ => ?_
      conv => whnf
      refine hf.mono ?_
      rintro o S' ⟨rfl, t3, hr⟩
      have q2 := hr.le _ _ q20
      have hle := hz2 S' hr.le
      have hrs := hr.at_
      by_cases he : e = 0
      · simp only [if_pos he] at hK hQ
        simp only [errAV, if_pos he]
        conv => whnf
        refine hK _ _ ?_
        clear hK hQ K
        refine awp_seq2 fun K hK hQ => ?_
        conv => whnf
        refine (rend_ok rb l3 _ S' hrs).mono ?_
        rintro o T ⟨rfl, rfl⟩
        cases l3 with
        | nil =>
          simp only [if_true] at hK hQ ⊢
          conv => whnf
          refine hK _ _ ?_
          clear hK hQ K
          conv => whnf
          refine ⟨_, _, hrs, ?_⟩
          conv => whnf
          refine ⟨_, _, q2, ?_⟩
          conv => whnf
          refine ⟨_, _, St.upd_same _ _ _, ?_⟩
          conv => whnf
          exact ⟨_, _, ⟨rfl, rfl⟩, hle _, ⟨⟨rfl, rfl, ⟨rfl, rfl⟩, ⟨rfl, rfl⟩, rfl, ⟨rfl, rfl⟩, ⟨rfl, rfl⟩, rfl, rfl, rfl, rfl⟩, rfl, rfl⟩⟩
        | cons x l3 =>
          simp only [reduceCtorEq, if_false] at hK hQ ⊢
          conv => whnf
          refine hK _ _ ?_
          clear hK hQ K
          conv => whnf
          refine ⟨_, _, hrs, ?_⟩
          conv => whnf
          refine ⟨_, _, q2, ?_⟩
          conv => whnf
          refine ⟨_, _, St.upd_same _ _ _, ?_⟩
          conv => whnf
          exact ⟨_, _, ⟨rfl, rfl⟩, hle _, ⟨⟨rfl, rfl, ⟨rfl, rfl⟩, ⟨rfl, rfl⟩, rfl, ⟨rfl, rfl⟩, ⟨rfl, rfl⟩, rfl, rfl, rfl, rfl⟩, AV.leS_refl _ _ _, rfl⟩⟩
      · simp only [if_neg he] at hK hQ
        simp only [errAV, if_neg he] at hK hQ ⊢
        conv => whnf
        refine hK _ _ ?_
        clear hK hQ K
        refine awp_seq2 fun K hK hQ => ?_
        conv => whnf
        refine hK _ _ ?_
        clear hK hQ K
        conv => whnf
        refine ⟨_, _, hrs, ?_⟩
        conv => whnf
        refine ⟨_, _, q2, ?_⟩
        conv => whnf
        refine ⟨_, _, St.upd_same _ _ _, ?_⟩
        conv => whnf
        exact ⟨_, _, ⟨rfl, rfl⟩, hle _, ⟨⟨rfl, rfl, ⟨rfl, rfl⟩, ⟨rfl, rfl⟩, rfl, ⟨rfl, rfl⟩, ⟨rfl, rfl⟩, rfl, rfl, rfl, rfl⟩, AV.leS_refl _ _ _, rfl⟩⟩
    have n2 : ¬ w = kPol := of_decide_eq_false h
    conv => whnf
    refine split_of (fun h => ?_) (fun h => ?_)
    · have hh : w = kRup := of_decide_eq_true h
      have hg : tabG w = some (rupG) := by unfold tabG; rw [if_neg n0, if_neg n1, if_neg n2, if_pos hh]
      have hf := rup_ok (G := G) hG ⟨_, hat3⟩ hw1 hv
      have hpw : parseW (w :: l) = finG (rupG l zeroV) := by unfold parseW; dsimp only; rw [hg]
      rw [hpw] at hK hQ
      clear hpw hg
      generalize rupG l zeroV = r at *
      obtain ⟨e, l3, v3⟩ := r
      dsimp only at hf
      unfold finG at hK hQ
      dsimp only at hK hQ
      conv => whnf
      refine hK _ _ ?_
      clear hK hQ K
      refine awp_seq2 fun K hK hQ => ?_
      conv => whnf
      refine hK _ _ ?_
      clear hK hQ K
      refine awp_seq2 fun K hK hQ => ?_
      conv => whnf
      refine hf.mono ?_
      rintro o S' ⟨rfl, t3, hr⟩
      have q2 := hr.le _ _ q20
      have hle := hz2 S' hr.le
      have hrs := hr.at_
      by_cases he : e = 0
      · simp only [if_pos he] at hK hQ
        simp only [errAV, if_pos he]
        conv => whnf
        refine hK _ _ ?_
        clear hK hQ K
        refine awp_seq2 fun K hK hQ => ?_
        conv => whnf
        refine (rend_ok rb l3 _ S' hrs).mono ?_
        rintro o T ⟨rfl, rfl⟩
        cases l3 with
        | nil =>
          simp only [if_true] at hK hQ ⊢
          conv => whnf
          refine hK _ _ ?_
          clear hK hQ K
          conv => whnf
          refine ⟨_, _, hrs, ?_⟩
          conv => whnf
          refine ⟨_, _, q2, ?_⟩
          conv => whnf
          refine ⟨_, _, St.upd_same _ _ _, ?_⟩
          conv => whnf
          exact ⟨_, _, ⟨rfl, rfl⟩, hle _, ⟨⟨rfl, rfl, ⟨rfl, rfl⟩, ⟨rfl, rfl⟩, rfl, ⟨rfl, rfl⟩, ⟨rfl, rfl⟩, rfl, rfl, rfl, rfl⟩, rfl, rfl⟩⟩
        | cons x l3 =>
          simp only [reduceCtorEq, if_false] at hK hQ ⊢
          conv => whnf
          refine hK _ _ ?_
          clear hK hQ K
          conv => whnf
          refine ⟨_, _, hrs, ?_⟩
          conv => whnf
          refine ⟨_, _, q2, ?_⟩
          conv => whnf
          refine ⟨_, _, St.upd_same _ _ _, ?_⟩
          conv => whnf
          exact ⟨_, _, ⟨rfl, rfl⟩, hle _, ⟨⟨rfl, rfl, ⟨rfl, rfl⟩, ⟨rfl, rfl⟩, rfl, ⟨rfl, rfl⟩, ⟨rfl, rfl⟩, rfl, rfl, rfl, rfl⟩, AV.leS_refl _ _ _, rfl⟩⟩
      · simp only [if_neg he] at hK hQ
        simp only [errAV, if_neg he] at hK hQ ⊢
        conv => whnf
        refine hK _ _ ?_
        clear hK hQ K
        refine awp_seq2 fun K hK hQ => ?_
        conv => whnf
        refine hK _ _ ?_
        clear hK hQ K
        conv => whnf
        refine ⟨_, _, hrs, ?_⟩
        conv => whnf
        refine ⟨_, _, q2, ?_⟩
        conv => whnf
        refine ⟨_, _, St.upd_same _ _ _, ?_⟩
        conv => whnf
        exact ⟨_, _, ⟨rfl, rfl⟩, hle _, ⟨⟨rfl, rfl, ⟨rfl, rfl⟩, ⟨rfl, rfl⟩, rfl, ⟨rfl, rfl⟩, ⟨rfl, rfl⟩, rfl, rfl, rfl, rfl⟩, AV.leS_refl _ _ _, rfl⟩⟩
    have n3 : ¬ w = kRup := of_decide_eq_false h
    conv => whnf
    refine split_of (fun h => ?_) (fun h => ?_)
    · have hh : w = kSoli := of_decide_eq_true h
      have hg : tabG w = some (solG 5) := by unfold tabG; rw [if_neg n0, if_neg n1, if_neg n2, if_neg n3, if_pos hh]
      have hf := soli_ok (G := G) hG ⟨_, hat3⟩ hw1 hv
      have hpw : parseW (w :: l) = finG (solG 5 l zeroV) := by unfold parseW; dsimp only; rw [hg]
      rw [hpw] at hK hQ
      clear hpw hg
      generalize solG 5 l zeroV = r at *
      obtain ⟨e, l3, v3⟩ := r
      dsimp only at hf
      unfold finG at hK hQ
      dsimp only at hK hQ
      conv => whnf
      refine hK _ _ ?_
      clear hK hQ K
      refine awp_seq2 fun K hK hQ => ?_
      conv => whnf
      refine hK _ _ ?_
      clear hK hQ K
      refine awp_seq2 fun K hK hQ => ?_
      conv => whnf
      refine hf.mono ?_
      rintro o S' ⟨rfl, t3, hr⟩
      have q2 := hr.le _ _ q20
      have hle := hz2 S' hr.le
      have hrs := hr.at_
      by_cases he : e = 0
      · simp only [if_pos he] at hK hQ
        simp only [errAV, if_pos he]
        conv => whnf
        refine hK _ _ ?_
        clear hK hQ K
        refine awp_seq2 fun K hK hQ => ?_
        conv => whnf
        refine (rend_ok rb l3 _ S' hrs).mono ?_
        rintro o T ⟨rfl, rfl⟩
        cases l3 with
        | nil =>
          simp only [if_true] at hK hQ ⊢
          conv => whnf
          refine hK _ _ ?_
          clear hK hQ K
          conv => whnf
          refine ⟨_, _, hrs, ?_⟩
          conv => whnf
          refine ⟨_, _, q2, ?_⟩
          conv => whnf
          refine ⟨_, _, St.upd_same _ _ _, ?_⟩
          conv => whnf
          exact ⟨_, _, ⟨rfl, rfl⟩, hle _, ⟨⟨rfl, rfl, ⟨rfl, rfl⟩, ⟨rfl, rfl⟩, rfl, ⟨rfl, rfl⟩, ⟨rfl, rfl⟩, rfl, rfl, rfl, rfl⟩, rfl, rfl⟩⟩
        | cons x l3 =>
          simp only [reduceCtorEq, if_false] at hK hQ ⊢
          conv => whnf
          refine hK _ _ ?_
          clear hK hQ K
          conv => whnf
          refine ⟨_, _, hrs, ?_⟩
          conv => whnf
          refine ⟨_, _, q2, ?_⟩
          conv => whnf
          refine ⟨_, _, St.upd_same _ _ _, ?_⟩
          conv => whnf
          exact ⟨_, _, ⟨rfl, rfl⟩, hle _, ⟨⟨rfl, rfl, ⟨rfl, rfl⟩, ⟨rfl, rfl⟩, rfl, ⟨rfl, rfl⟩, ⟨rfl, rfl⟩, rfl, rfl, rfl, rfl⟩, AV.leS_refl _ _ _, rfl⟩⟩
      · simp only [if_neg he] at hK hQ
        simp only [errAV, if_neg he] at hK hQ ⊢
        conv => whnf
        refine hK _ _ ?_
        clear hK hQ K
        refine awp_seq2 fun K hK hQ => ?_
        conv => whnf
        refine hK _ _ ?_
        clear hK hQ K
        conv => whnf
        refine ⟨_, _, hrs, ?_⟩
        conv => whnf
        refine ⟨_, _, q2, ?_⟩
        conv => whnf
        refine ⟨_, _, St.upd_same _ _ _, ?_⟩
        conv => whnf
        exact ⟨_, _, ⟨rfl, rfl⟩, hle _, ⟨⟨rfl, rfl, ⟨rfl, rfl⟩, ⟨rfl, rfl⟩, rfl, ⟨rfl, rfl⟩, ⟨rfl, rfl⟩, rfl, rfl, rfl, rfl⟩, AV.leS_refl _ _ _, rfl⟩⟩
    have n4 : ¬ w = kSoli := of_decide_eq_false h
    conv => whnf
    refine split_of (fun h => ?_) (fun h => ?_)
    · have hh : w = kSolx := of_decide_eq_true h
      have hg : tabG w = some (solG 11) := by unfold tabG; rw [if_neg n0, if_neg n1, if_neg n2, if_neg n3, if_neg n4, if_pos hh]
      have hf := solx_ok (G := G) hG ⟨_, hat3⟩ hw1 hv
      have hpw : parseW (w :: l) = finG (solG 11 l zeroV) := by unfold parseW; dsimp only; rw [hg]
      rw [hpw] at hK hQ
      clear hpw hg
      generalize solG 11 l zeroV = r at *
      obtain ⟨e, l3, v3⟩ := r
      dsimp only at hf
      unfold finG at hK hQ
      dsimp only at hK hQ
      conv => whnf
      refine hK _ _ ?_
      clear hK hQ K
      refine awp_seq2 fun K hK hQ => ?_
      conv => whnf
      refine hK _ _ ?_
      clear hK hQ K
      refine awp_seq2 fun K hK hQ => ?_
      conv => whnf
      refine hf.mono ?_
      rintro o S' ⟨rfl, t3, hr⟩
      have q2 := hr.le _ _ q20
      have hle := hz2 S' hr.le
      have hrs := hr.at_
      by_cases he : e = 0
      · simp only [if_pos he] at hK hQ
        simp only [errAV, if_pos he]
        conv => whnf
        refine hK _ _ ?_
        clear hK hQ K
        refine awp_seq2 fun K hK hQ => ?_
        conv => whnf
        refine (rend_ok rb l3 _ S' hrs).mono ?_
        rintro o T ⟨rfl, rfl⟩
        cases l3 with
        | nil =>
          simp only [if_true] at hK hQ ⊢
          conv => whnf
          refine hK _ _ ?_
          clear hK hQ K
          conv => whnf
          refine ⟨_, _, hrs, ?_⟩
          conv => whnf
          refine ⟨_, _, q2, ?_⟩
          conv => whnf
          refine ⟨_, _, St.upd_same _ _ _, ?_⟩
          conv => whnf
          exact ⟨_, _, ⟨rfl, rfl⟩, hle _, ⟨⟨rfl, rfl, ⟨rfl, rfl⟩, ⟨rfl, rfl⟩, rfl, ⟨rfl, rfl⟩, ⟨rfl, rfl⟩, rfl, rfl, rfl, rfl⟩, rfl, rfl⟩⟩
        | cons x l3 =>
          simp only [reduceCtorEq, if_false] at hK hQ ⊢
          conv => whnf
          refine hK _ _ ?_
          clear hK hQ K
          conv => whnf
          refine ⟨_, _, hrs, ?_⟩
          conv => whnf
          refine ⟨_, _, q2, ?_⟩
          conv => whnf
          refine ⟨_, _, St.upd_same _ _ _, ?_⟩
          conv => whnf
          exact ⟨_, _, ⟨rfl, rfl⟩, hle _, ⟨⟨rfl, rfl, ⟨rfl, rfl⟩, ⟨rfl, rfl⟩, rfl, ⟨rfl, rfl⟩, ⟨rfl, rfl⟩, rfl, rfl, rfl, rfl⟩, AV.leS_refl _ _ _, rfl⟩⟩
      · simp only [if_neg he] at hK hQ
        simp only [errAV, if_neg he] at hK hQ ⊢
        conv => whnf
        refine hK _ _ ?_
        clear hK hQ K
        refine awp_seq2 fun K hK hQ => ?_
        conv => whnf
        refine hK _ _ ?_
        clear hK hQ K
        conv => whnf
        refine ⟨_, _, hrs, ?_⟩
        conv => whnf
        refine ⟨_, _, q2, ?_⟩
        conv => whnf
        refine ⟨_, _, St.upd_same _ _ _, ?_⟩
        conv => whnf
        exact ⟨_, _, ⟨rfl, rfl⟩, hle _, ⟨⟨rfl, rfl, ⟨rfl, rfl⟩, ⟨rfl, rfl⟩, rfl, ⟨rfl, rfl⟩, ⟨rfl, rfl⟩, rfl, rfl, rfl, rfl⟩, AV.leS_refl _ _ _, rfl⟩⟩
    have n5 : ¬ w = kSolx := of_decide_eq_false h
    conv => whnf
    refine split_of (fun h => ?_) (fun h => ?_)
    · have hh : w = kE := of_decide_eq_true h
      have hg : tabG w = some (sameG) := by unfold tabG; rw [if_neg n0, if_neg n1, if_neg n2, if_neg n3, if_neg n4, if_neg n5, if_pos hh]
      have hf := same_ok (G := G) hG ⟨_, hat3⟩ hw1 hv
      have hpw : parseW (w :: l) = finG (sameG l zeroV) := by unfold parseW; dsimp only; rw [hg]
      rw [hpw] at hK hQ
      clear hpw hg
      generalize sameG l zeroV = r at *
      obtain ⟨e, l3, v3⟩ := r
      dsimp only at hf
      unfold finG at hK hQ
      dsimp only at hK hQ
      conv => whnf
      refine hK _ _ ?_
      clear hK hQ K
      refine awp_seq2 fun K hK hQ => ?_
      conv => whnf
      refine hK _ _ ?_
      clear hK hQ K
      refine awp_seq2 fun K hK hQ => ?_
      conv => whnf
      refine hf.mono ?_
      rintro o S' ⟨rfl, t3, hr⟩
      have q2 := hr.le _ _ q20
      have hle := hz2 S' hr.le
      have hrs := hr.at_
      by_cases he : e = 0
      · simp only [if_pos he] at hK hQ
        simp only [errAV, if_pos he]
        conv => whnf
        refine hK _ _ ?_
        clear hK hQ K
        refine awp_seq2 fun K hK hQ => ?_
        conv => whnf
        refine (rend_ok rb l3 _ S' hrs).mono ?_
        rintro o T ⟨rfl, rfl⟩
        cases l3 with
        | nil =>
          simp only [if_true] at hK hQ ⊢
          conv => whnf
          refine hK _ _ ?_
          clear hK hQ K
          conv => whnf
          refine ⟨_, _, hrs, ?_⟩
          conv => whnf
          refine ⟨_, _, q2, ?_⟩
          conv => whnf
          refine ⟨_, _, St.upd_same _ _ _, ?_⟩
          conv => whnf
          exact ⟨_, _, ⟨rfl, rfl⟩, hle _, ⟨⟨rfl, rfl, ⟨rfl, rfl⟩, ⟨rfl, rfl⟩, rfl, ⟨rfl, rfl⟩, ⟨rfl, rfl⟩, rfl, rfl, rfl, rfl⟩, rfl, rfl⟩⟩
        | cons x l3 =>
          simp only [reduceCtorEq, if_false] at hK hQ ⊢
          conv => whnf
          refine hK _ _ ?_
          clear hK hQ K
          conv => whnf
          refine ⟨_, _, hrs, ?_⟩
          conv => whnf
          refine ⟨_, _, q2, ?_⟩
          conv => whnf
          refine ⟨_, _, St.upd_same _ _ _, ?_⟩
          conv => whnf
          exact ⟨_, _, ⟨rfl, rfl⟩, hle _, ⟨⟨rfl, rfl, ⟨rfl, rfl⟩, ⟨rfl, rfl⟩, rfl, ⟨rfl, rfl⟩, ⟨rfl, rfl⟩, rfl, rfl, rfl, rfl⟩, AV.leS_refl _ _ _, rfl⟩⟩
      · simp only [if_neg he] at hK hQ
        simp only [errAV, if_neg he] at hK hQ ⊢
        conv => whnf
        refine hK _ _ ?_
        clear hK hQ K
        refine awp_seq2 fun K hK hQ => ?_
        conv => whnf
        refine hK _ _ ?_
        clear hK hQ K
        conv => whnf
        refine ⟨_, _, hrs, ?_⟩
        conv => whnf
        refine ⟨_, _, q2, ?_⟩
        conv => whnf
        refine ⟨_, _, St.upd_same _ _ _, ?_⟩
        conv => whnf
        exact ⟨_, _, ⟨rfl, rfl⟩, hle _, ⟨⟨rfl, rfl, ⟨rfl, rfl⟩, ⟨rfl, rfl⟩, rfl, ⟨rfl, rfl⟩, ⟨rfl, rfl⟩, rfl, rfl, rfl, rfl⟩, AV.leS_refl _ _ _, rfl⟩⟩
    have n6 : ¬ w = kE := of_decide_eq_false h
    conv => whnf
    refine split_of (fun h => ?_) (fun h => ?_)
    · have hh : w = kDel := of_decide_eq_true h
      have hg : tabG w = some (delG) := by unfold tabG; rw [if_neg n0, if_neg n1, if_neg n2, if_neg n3, if_neg n4, if_neg n5, if_neg n6, if_pos hh]
      have hf := del_ok (G := G) ⟨_, hat3⟩ hw1 hv
      have hpw : parseW (w :: l) = finG (delG l zeroV) := by unfold parseW; dsimp only; rw [hg]
      rw [hpw] at hK hQ
      clear hpw hg
      generalize delG l zeroV = r at *
      obtain ⟨e, l3, v3⟩ := r
      dsimp only at hf
      unfold finG at hK hQ
      dsimp only at hK hQ
      conv => whnf
      refine hK _ _ ?_
      clear hK hQ K
      refine awp_seq2 fun K hK hQ => ?_
      conv => whnf
      refine hK _ _ ?_
      clear hK hQ K
      refine awp_seq2 fun K hK hQ => ?_
      conv => whnf
      refine hf.mono ?_
      rintro o S' ⟨rfl, t3, hr⟩
      have q2 := hr.le _ _ q20
      have hle := hz2 S' hr.le
      have hrs := hr.at_
      by_cases he : e = 0
      · simp only [if_pos he] at hK hQ
        simp only [errAV, if_pos he]
        conv => whnf
        refine hK _ _ ?_
        clear hK hQ K
        refine awp_seq2 fun K hK hQ => ?_
        conv => whnf
        refine (rend_ok rb l3 _ S' hrs).mono ?_
        rintro o T ⟨rfl, rfl⟩
        cases l3 with
        | nil =>
          simp only [if_true] at hK hQ ⊢
          conv => whnf
          refine hK _ _ ?_
          clear hK hQ K
          conv => whnf
          refine ⟨_, _, hrs, ?_⟩
          conv => whnf
          refine ⟨_, _, q2, ?_⟩
          conv => whnf
          refine ⟨_, _, St.upd_same _ _ _, ?_⟩
          conv => whnf
          exact ⟨_, _, ⟨rfl, rfl⟩, hle _, ⟨⟨rfl, rfl, ⟨rfl, rfl⟩, ⟨rfl, rfl⟩, rfl, ⟨rfl, rfl⟩, ⟨rfl, rfl⟩, rfl, rfl, rfl, rfl⟩, rfl, rfl⟩⟩
        | cons x l3 =>
          simp only [reduceCtorEq, if_false] at hK hQ ⊢
          conv => whnf
          refine hK _ _ ?_
          clear hK hQ K
          conv => whnf
          refine ⟨_, _, hrs, ?_⟩
          conv => whnf
          refine ⟨_, _, q2, ?_⟩
          conv => whnf
          refine ⟨_, _, St.upd_same _ _ _, ?_⟩
          conv => whnf
          exact ⟨_, _, ⟨rfl, rfl⟩, hle _, ⟨⟨rfl, rfl, ⟨rfl, rfl⟩, ⟨rfl, rfl⟩, rfl, ⟨rfl, rfl⟩, ⟨rfl, rfl⟩, rfl, rfl, rfl, rfl⟩, AV.leS_refl _ _ _, rfl⟩⟩
      · simp only [if_neg he] at hK hQ
        simp only [errAV, if_neg he] at hK hQ ⊢
        conv => whnf
        refine hK _ _ ?_
        clear hK hQ K
        refine awp_seq2 fun K hK hQ => ?_
        conv => whnf
        refine hK _ _ ?_
        clear hK hQ K
        conv => whnf
        refine ⟨_, _, hrs, ?_⟩
        conv => whnf
        refine ⟨_, _, q2, ?_⟩
        conv => whnf
        refine ⟨_, _, St.upd_same _ _ _, ?_⟩
        conv => whnf
        exact ⟨_, _, ⟨rfl, rfl⟩, hle _, ⟨⟨rfl, rfl, ⟨rfl, rfl⟩, ⟨rfl, rfl⟩, rfl, ⟨rfl, rfl⟩, ⟨rfl, rfl⟩, rfl, rfl, rfl, rfl⟩, AV.leS_refl _ _ _, rfl⟩⟩
    have n7 : ¬ w = kDel := of_decide_eq_false h
    conv => whnf
    refine split_of (fun h => ?_) (fun h => ?_)
    · have hh : w = kStar := of_decide_eq_true h
      have hg : tabG w = some (noteG) := by unfold tabG; rw [if_neg n0, if_neg n1, if_neg n2, if_neg n3, if_neg n4, if_neg n5, if_neg n6, if_neg n7, if_pos hh]
      have hf := note_ok (G := G) ⟨_, hat3⟩
      have hpw : parseW (w :: l) = finG (noteG l zeroV) := by unfold parseW; dsimp only; rw [hg]
      rw [hpw] at hK hQ
      clear hpw hg
      generalize noteG l zeroV = r at *
      obtain ⟨e, l3, v3⟩ := r
      dsimp only at hf
      unfold finG at hK hQ
      dsimp only at hK hQ
      conv => whnf
      refine hK _ _ ?_
      clear hK hQ K
      refine awp_seq2 fun K hK hQ => ?_
      conv => whnf
      refine hK _ _ ?_
      clear hK hQ K
      refine awp_seq2 fun K hK hQ => ?_
      conv => whnf
      refine hf.mono ?_
      rintro o S' ⟨rfl, t3, hr⟩
      have q2 := hr.le _ _ q20
      have hle := hz2 S' hr.le
      have hrs := hr.at_
      by_cases he : e = 0
      · simp only [if_pos he] at hK hQ
        simp only [errAV, if_pos he]
        conv => whnf
        refine hK _ _ ?_
        clear hK hQ K
        refine awp_seq2 fun K hK hQ => ?_
        conv => whnf
        refine (rend_ok rb l3 _ S' hrs).mono ?_
        rintro o T ⟨rfl, rfl⟩
        cases l3 with
        | nil =>
          simp only [if_true] at hK hQ ⊢
          conv => whnf
          refine hK _ _ ?_
          clear hK hQ K
          conv => whnf
          refine ⟨_, _, hrs, ?_⟩
          conv => whnf
          refine ⟨_, _, q2, ?_⟩
          conv => whnf
          refine ⟨_, _, St.upd_same _ _ _, ?_⟩
          conv => whnf
          exact ⟨_, _, ⟨rfl, rfl⟩, hle _, ⟨⟨rfl, rfl, ⟨rfl, rfl⟩, ⟨rfl, rfl⟩, rfl, ⟨rfl, rfl⟩, ⟨rfl, rfl⟩, rfl, rfl, rfl, rfl⟩, rfl, rfl⟩⟩
        | cons x l3 =>
          simp only [reduceCtorEq, if_false] at hK hQ ⊢
          conv => whnf
          refine hK _ _ ?_
          clear hK hQ K
          conv => whnf
          refine ⟨_, _, hrs, ?_⟩
          conv => whnf
          refine ⟨_, _, q2, ?_⟩
          conv => whnf
          refine ⟨_, _, St.upd_same _ _ _, ?_⟩
          conv => whnf
          exact ⟨_, _, ⟨rfl, rfl⟩, hle _, ⟨⟨rfl, rfl, ⟨rfl, rfl⟩, ⟨rfl, rfl⟩, rfl, ⟨rfl, rfl⟩, ⟨rfl, rfl⟩, rfl, rfl, rfl, rfl⟩, AV.leS_refl _ _ _, rfl⟩⟩
      · simp only [if_neg he] at hK hQ
        simp only [errAV, if_neg he] at hK hQ ⊢
        conv => whnf
        refine hK _ _ ?_
        clear hK hQ K
        refine awp_seq2 fun K hK hQ => ?_
        conv => whnf
        refine hK _ _ ?_
        clear hK hQ K
        conv => whnf
        refine ⟨_, _, hrs, ?_⟩
        conv => whnf
        refine ⟨_, _, q2, ?_⟩
        conv => whnf
        refine ⟨_, _, St.upd_same _ _ _, ?_⟩
        conv => whnf
        exact ⟨_, _, ⟨rfl, rfl⟩, hle _, ⟨⟨rfl, rfl, ⟨rfl, rfl⟩, ⟨rfl, rfl⟩, rfl, ⟨rfl, rfl⟩, ⟨rfl, rfl⟩, rfl, rfl, rfl, rfl⟩, AV.leS_refl _ _ _, rfl⟩⟩
    have n8 : ¬ w = kStar := of_decide_eq_false h
    conv => whnf
    refine split_of (fun h => ?_) (fun h => ?_)
    · have hh : w = kOut := of_decide_eq_true h
      have hg : tabG w = some (fixG 8 outputWords) := by unfold tabG; rw [if_neg n0, if_neg n1, if_neg n2, if_neg n3, if_neg n4, if_neg n5, if_neg n6, if_neg n7, if_neg n8, if_pos hh]
      have hf := output_ok (G := G) ⟨_, hat3⟩
      have hpw : parseW (w :: l) = finG (fixG 8 outputWords l zeroV) := by unfold parseW; dsimp only; rw [hg]
      rw [hpw] at hK hQ
      clear hpw hg
      generalize fixG 8 outputWords l zeroV = r at *
      obtain ⟨e, l3, v3⟩ := r
      dsimp only at hf
      unfold finG at hK hQ
      dsimp only at hK hQ
      conv => whnf
      refine hK _ _ ?_
      clear hK hQ K
      refine awp_seq2 fun K hK hQ => ?_
      conv => whnf
      refine hK _ _ ?_
      clear hK hQ K
      refine awp_seq2 fun K hK hQ => ?_
      conv => whnf
      refine hf.mono ?_
      rintro o S' ⟨rfl, t3, hr⟩
      have q2 := hr.le _ _ q20
      have hle := hz2 S' hr.le
      have hrs := hr.at_
      by_cases he : e = 0
      · simp only [if_pos he] at hK hQ
        simp only [errAV, if_pos he]
        conv => whnf
        refine hK _ _ ?_
        clear hK hQ K
        refine awp_seq2 fun K hK hQ => ?_
        conv => whnf
        refine (rend_ok rb l3 _ S' hrs).mono ?_
        rintro o T ⟨rfl, rfl⟩
        cases l3 with
        | nil =>
          simp only [if_true] at hK hQ ⊢
          conv => whnf
          refine hK _ _ ?_
          clear hK hQ K
          conv => whnf
          refine ⟨_, _, hrs, ?_⟩
          conv => whnf
          refine ⟨_, _, q2, ?_⟩
          conv => whnf
          refine ⟨_, _, St.upd_same _ _ _, ?_⟩
          conv => whnf
          exact ⟨_, _, ⟨rfl, rfl⟩, hle _, ⟨⟨rfl, rfl, ⟨rfl, rfl⟩, ⟨rfl, rfl⟩, rfl, ⟨rfl, rfl⟩, ⟨rfl, rfl⟩, rfl, rfl, rfl, rfl⟩, rfl, rfl⟩⟩
        | cons x l3 =>
          simp only [reduceCtorEq, if_false] at hK hQ ⊢
          conv => whnf
          refine hK _ _ ?_
          clear hK hQ K
          conv => whnf
          refine ⟨_, _, hrs, ?_⟩
          conv => whnf
          refine ⟨_, _, q2, ?_⟩
          conv => whnf
          refine ⟨_, _, St.upd_same _ _ _, ?_⟩
          conv => whnf
          exact ⟨_, _, ⟨rfl, rfl⟩, hle _, ⟨⟨rfl, rfl, ⟨rfl, rfl⟩, ⟨rfl, rfl⟩, rfl, ⟨rfl, rfl⟩, ⟨rfl, rfl⟩, rfl, rfl, rfl, rfl⟩, AV.leS_refl _ _ _, rfl⟩⟩
      · simp only [if_neg he] at hK hQ
        simp only [errAV, if_neg he] at hK hQ ⊢
        conv => whnf
        refine hK _ _ ?_
        clear hK hQ K
        refine awp_seq2 fun K hK hQ => ?_
        conv => whnf
        refine hK _ _ ?_
        clear hK hQ K
        conv => whnf
        refine ⟨_, _, hrs, ?_⟩
        conv => whnf
        refine ⟨_, _, q2, ?_⟩
        conv => whnf
        refine ⟨_, _, St.upd_same _ _ _, ?_⟩
        conv => whnf
        exact ⟨_, _, ⟨rfl, rfl⟩, hle _, ⟨⟨rfl, rfl, ⟨rfl, rfl⟩, ⟨rfl, rfl⟩, rfl, ⟨rfl, rfl⟩, ⟨rfl, rfl⟩, rfl, rfl, rfl, rfl⟩, AV.leS_refl _ _ _, rfl⟩⟩
    have n9 : ¬ w = kOut := of_decide_eq_false h
    conv => whnf
    refine split_of (fun h => ?_) (fun h => ?_)
    · have hh : w = kConc := of_decide_eq_true h
      have hg : tabG w = some (conclG) := by unfold tabG; rw [if_neg n0, if_neg n1, if_neg n2, if_neg n3, if_neg n4, if_neg n5, if_neg n6, if_neg n7, if_neg n8, if_neg n9, if_pos hh]
      have hf := conclusion_ok (G := G) ⟨_, hat3⟩ hw1
      have hpw : parseW (w :: l) = finG (conclG l zeroV) := by unfold parseW; dsimp only; rw [hg]
      rw [hpw] at hK hQ
      clear hpw hg
      generalize conclG l zeroV = r at *
      obtain ⟨e, l3, v3⟩ := r
      dsimp only at hf
      unfold finG at hK hQ
      dsimp only at hK hQ
      conv => whnf
      refine hK _ _ ?_
      clear hK hQ K
      refine awp_seq2 fun K hK hQ => ?_
      conv => whnf
      refine hK _ _ ?_
      clear hK hQ K
      refine awp_seq2 fun K hK hQ => ?_
      conv => whnf
      refine hf.mono ?_
      rintro o S' ⟨rfl, t3, hr⟩
      have q2 := hr.le _ _ q20
      have hle := hz2 S' hr.le
      have hrs := hr.at_
      by_cases he : e = 0
      · simp only [if_pos he] at hK hQ
        simp only [errAV, if_pos he]
        conv => whnf
        refine hK _ _ ?_
        clear hK hQ K
        refine awp_seq2 fun K hK hQ => ?_
        conv => whnf
        refine (rend_ok rb l3 _ S' hrs).mono ?_
        rintro o T ⟨rfl, rfl⟩
        cases l3 with
        | nil =>
          simp only [if_true] at hK hQ ⊢
          conv => whnf
          refine hK _ _ ?_
          clear hK hQ K
          conv => whnf
          refine ⟨_, _, hrs, ?_⟩
          conv => whnf
          refine ⟨_, _, q2, ?_⟩
          conv => whnf
          refine ⟨_, _, St.upd_same _ _ _, ?_⟩
          conv => whnf
          exact ⟨_, _, ⟨rfl, rfl⟩, hle _, ⟨⟨rfl, rfl, ⟨rfl, rfl⟩, ⟨rfl, rfl⟩, rfl, ⟨rfl, rfl⟩, ⟨rfl, rfl⟩, rfl, rfl, rfl, rfl⟩, rfl, rfl⟩⟩
        | cons x l3 =>
          simp only [reduceCtorEq, if_false] at hK hQ ⊢
          conv => whnf
          refine hK _ _ ?_
          clear hK hQ K
          conv => whnf
          refine ⟨_, _, hrs, ?_⟩
          conv => whnf
          refine ⟨_, _, q2, ?_⟩
          conv => whnf
          refine ⟨_, _, St.upd_same _ _ _, ?_⟩
          conv => whnf
          exact ⟨_, _, ⟨rfl, rfl⟩, hle _, ⟨⟨rfl, rfl, ⟨rfl, rfl⟩, ⟨rfl, rfl⟩, rfl, ⟨rfl, rfl⟩, ⟨rfl, rfl⟩, rfl, rfl, rfl, rfl⟩, AV.leS_refl _ _ _, rfl⟩⟩
      · simp only [if_neg he] at hK hQ
        simp only [errAV, if_neg he] at hK hQ ⊢
        conv => whnf
        refine hK _ _ ?_
        clear hK hQ K
        refine awp_seq2 fun K hK hQ => ?_
        conv => whnf
        refine hK _ _ ?_
        clear hK hQ K
        conv => whnf
        refine ⟨_, _, hrs, ?_⟩
        conv => whnf
        refine ⟨_, _, q2, ?_⟩
        conv => whnf
        refine ⟨_, _, St.upd_same _ _ _, ?_⟩
        conv => whnf
        exact ⟨_, _, ⟨rfl, rfl⟩, hle _, ⟨⟨rfl, rfl, ⟨rfl, rfl⟩, ⟨rfl, rfl⟩, rfl, ⟨rfl, rfl⟩, ⟨rfl, rfl⟩, rfl, rfl, rfl, rfl⟩, AV.leS_refl _ _ _, rfl⟩⟩
    have n10 : ¬ w = kConc := of_decide_eq_false h
    conv => whnf
    refine split_of (fun h => ?_) (fun h => ?_)
    · have hh : w = kEnd := of_decide_eq_true h
      have hg : tabG w = some (fixG 10 lastWords) := by unfold tabG; rw [if_neg n0, if_neg n1, if_neg n2, if_neg n3, if_neg n4, if_neg n5, if_neg n6, if_neg n7, if_neg n8, if_neg n9, if_neg n10, if_pos hh]
      have hf := last_ok (G := G) ⟨_, hat3⟩
      have hpw : parseW (w :: l) = finG (fixG 10 lastWords l zeroV) := by unfold parseW; dsimp only; rw [hg]
      rw [hpw] at hK hQ
      clear hpw hg
      generalize fixG 10 lastWords l zeroV = r at *
      obtain ⟨e, l3, v3⟩ := r
      dsimp only at hf
      unfold finG at hK hQ
      dsimp only at hK hQ
      conv => whnf
      refine hK _ _ ?_
      clear hK hQ K
      refine awp_seq2 fun K hK hQ => ?_
      conv => whnf
      refine hK _ _ ?_
      clear hK hQ K
      refine awp_seq2 fun K hK hQ => ?_
      conv => whnf
      refine hf.mono ?_
      rintro o S' ⟨rfl, t3, hr⟩
      have q2 := hr.le _ _ q20
      have hle := hz2 S' hr.le
      have hrs := hr.at_
      by_cases he : e = 0
      · simp only [if_pos he] at hK hQ
        simp only [errAV, if_pos he]
        conv => whnf
        refine hK _ _ ?_
        clear hK hQ K
        refine awp_seq2 fun K hK hQ => ?_
        conv => whnf
        refine (rend_ok rb l3 _ S' hrs).mono ?_
        rintro o T ⟨rfl, rfl⟩
        cases l3 with
        | nil =>
          simp only [if_true] at hK hQ ⊢
          conv => whnf
          refine hK _ _ ?_
          clear hK hQ K
          conv => whnf
          refine ⟨_, _, hrs, ?_⟩
          conv => whnf
          refine ⟨_, _, q2, ?_⟩
          conv => whnf
          refine ⟨_, _, St.upd_same _ _ _, ?_⟩
          conv => whnf
          exact ⟨_, _, ⟨rfl, rfl⟩, hle _, ⟨⟨rfl, rfl, ⟨rfl, rfl⟩, ⟨rfl, rfl⟩, rfl, ⟨rfl, rfl⟩, ⟨rfl, rfl⟩, rfl, rfl, rfl, rfl⟩, rfl, rfl⟩⟩
        | cons x l3 =>
          simp only [reduceCtorEq, if_false] at hK hQ ⊢
          conv => whnf
          refine hK _ _ ?_
          clear hK hQ K
          conv => whnf
          refine ⟨_, _, hrs, ?_⟩
          conv => whnf
          refine ⟨_, _, q2, ?_⟩
          conv => whnf
          refine ⟨_, _, St.upd_same _ _ _, ?_⟩
          conv => whnf
          exact ⟨_, _, ⟨rfl, rfl⟩, hle _, ⟨⟨rfl, rfl, ⟨rfl, rfl⟩, ⟨rfl, rfl⟩, rfl, ⟨rfl, rfl⟩, ⟨rfl, rfl⟩, rfl, rfl, rfl, rfl⟩, AV.leS_refl _ _ _, rfl⟩⟩
      · simp only [if_neg he] at hK hQ
        simp only [errAV, if_neg he] at hK hQ ⊢
        conv => whnf
        refine hK _ _ ?_
        clear hK hQ K
        refine awp_seq2 fun K hK hQ => ?_
        conv => whnf
        refine hK _ _ ?_
        clear hK hQ K
        conv => whnf
        refine ⟨_, _, hrs, ?_⟩
        conv => whnf
        refine ⟨_, _, q2, ?_⟩
        conv => whnf
        refine ⟨_, _, St.upd_same _ _ _, ?_⟩
        conv => whnf
        exact ⟨_, _, ⟨rfl, rfl⟩, hle _, ⟨⟨rfl, rfl, ⟨rfl, rfl⟩, ⟨rfl, rfl⟩, rfl, ⟨rfl, rfl⟩, ⟨rfl, rfl⟩, rfl, rfl, rfl, rfl⟩, AV.leS_refl _ _ _, rfl⟩⟩
    have n11 : ¬ w = kEnd := of_decide_eq_false h
    conv => whnf
    have hg : tabG w = none := by unfold tabG; rw [if_neg n0, if_neg n1, if_neg n2, if_neg n3, if_neg n4, if_neg n5, if_neg n6, if_neg n7, if_neg n8, if_neg n9, if_neg n10, if_neg n11]
    have hpw : parseW (w :: l) = (zeroV, 80) := by unfold parseW; dsimp only; rw [hg]
    rw [hpw] at hK hQ
    have q2 := hat3.le _ _ q20
    have hle := hz2 S2 hat3.le
    refine hK _ _ ?_
    clear hK
    refine awp_seq2 fun K hK hQ' => ?_
    conv => whnf
    refine (fail_ok 80 _).mono ?_
    rintro o S' ⟨rfl, rfl⟩
    conv => whnf
    refine ⟨_, _, q2, ?_⟩
    conv => whnf
    refine hQ' _ _ _ (by simp) ?_
    conv => whnf
    refine ⟨_, _, St.upd_same _ _ _, ?_⟩
    conv => whnf
    exact ⟨_, _, ⟨rfl, rfl⟩, hle _, ⟨⟨rfl, rfl, rfl, rfl, rfl, rfl, rfl, rfl, rfl, rfl, rfl⟩, AV.leS_refl _ _ _, rfl⟩⟩
end Go.Proofs.YtcpdgnkhkdddhaaGreatDoor.Aw

set_option maxRecDepth 100000
set_option linter.unusedVariables false
set_option linter.unusedSimpArgs false
namespace Go.Proofs.YtcpdgnkhkdddhaaGreatDoor.Aw
open Go Go.RowKit Go.Extern.Stop Go.Stop Go.Extern
variable {G : Nat → Option (List AV)}

theorem as_nil (t : Value) (w : World) :
    Calls Tryz.prog 95 #[.nilIface, t] w fun e w' => e = .returned (.bool false) ∧ w' = w := by
  go_enter Tryz.func95, Tryz.ntmps95
  go_wp2
  go_ret
  exact ⟨rfl, rfl⟩
theorem As.valueOf2 (t : Addr) (w : World) : (ReflectliteValue.unpack (.iface 166 (.pointer (some t)))).run Tryz.prog w
    = .ok (.agg #[.pointer (some ⟨9, 166, none⟩), .pointer (some ⟨w.heap.size, 0, none⟩), .int .u64 150]) (w.alloc (.cells #[.pointer (some t)] 166)) := by kernel_rfl
theorem As.type2 (a : Addr) (w : World) : (ReflectliteValue.methodAny (ReflectliteValue.valueError "reflectlite.Value.Type" 0) (fun t _ _ _ => ReflectliteType.toType t) #[.agg #[.pointer (some ⟨9, 166, none⟩), .pointer (some a), .int .u64 150]]).run Tryz.prog w
    = .ok (.iface 241 (.agg #[.pointer (some ⟨9, 166, none⟩)])) w := by kernel_rfl
theorem As.methodKind (h : Value) (w : World) : (Go.method 473 241 (.agg #[h]) "Kind").run Tryz.prog w = .ok (262, h) w := by kernel_rfl
theorem As.kind2 (w : World) : ((ReflectliteType.abiMethod fun t => (fun a : Nat => Value.int IntKind.u8 (a : Int)) <$> Rtype.kind t) #[.pointer (some ⟨9, 166, none⟩)]).run Tryz.prog w = .ok (.int .u8 22) w := by kernel_rfl
theorem As.kind1 (w : World) : ((ReflectliteType.abiMethod fun t => (fun a : Nat => Value.int IntKind.u8 (a : Int)) <$> Rtype.kind t) #[.pointer (some ⟨9, 72, none⟩)]).run Tryz.prog w = .ok (.int .u8 22) w := by kernel_rfl
theorem As.rlm (z : Sem Value) (f : TypeId → Addr → Nat → Nat → Sem Value) (v : Value) :
    ReflectliteValue.method z f #[v] = (do match ← ReflectliteValue.parts v with | none => z | some (t, a, fl) => f t a fl (fl % 32)) := rfl
theorem As.parts2 (a : Addr) (w : World) : (ReflectliteValue.parts (.agg #[.pointer (some ⟨9, 166, none⟩), .pointer (some a), .int .u64 150])).run Tryz.prog w = .ok (some (166, a, 150)) w := by kernel_rfl
theorem As.isNil2 (a p : Addr) (W : World) (ha : W.cell? a = some (.pointer (some p))) :
    (ReflectliteValue.method (ReflectliteValue.valueError "reflectlite.Value.IsNil" 0) ReflectliteValue.isNil #[.agg #[.pointer (some ⟨9, 166, none⟩), .pointer (some a), .int .u64 150]]).run Tryz.prog W = .ok (.bool false) W := by
  rw [As.rlm]
  simp only [Sem.run_bind, As.parts2, Result.andThen]
  simp [ReflectliteValue.isNil, loadVar, isAgg, underlying, Tryz.underlying166, ha, Result.andThen]
theorem As.methodElem (h : Value) (w : World) : (Go.method 473 241 (.agg #[h]) "Elem").run Tryz.prog w = .ok (275, .agg #[h]) w := by kernel_rfl
theorem As.methodImplements (h : Value) (w : World) : (Go.method 473 241 (.agg #[h]) "Implements").run Tryz.prog w = .ok (276, .agg #[h]) w := by kernel_rfl
theorem As.methodAssignableTo (h : Value) (w : World) : (Go.method 473 241 (.agg #[h]) "AssignableTo").run Tryz.prog w = .ok (273, .agg #[h]) w := by kernel_rfl
theorem As.elem2 (w : World) : (ReflectliteType.method ReflectliteType.elem #[.agg #[.pointer (some ⟨9, 166, none⟩)]]).run Tryz.prog w = .ok (.iface 241 (.agg #[.pointer (some ⟨9, 72, none⟩)])) w := by kernel_rfl
theorem As.implements1 (w : World) : (ReflectliteType.relation "Implements" ReflectliteType.implements_ #[.agg #[.pointer (some ⟨9, 72, none⟩)], .iface 241 (.agg #[.pointer (some ⟨9, 69, none⟩)])]).run Tryz.prog w = .ok (.bool true) w := by kernel_rfl
theorem As.typeOf1 (v : Value) (w : World) : (ReflectliteType.typeOf #[.iface 72 v]).run Tryz.prog w = .ok (.iface 241 (.agg #[.pointer (some ⟨9, 72, none⟩)])) w := by kernel_rfl
theorem As.assignable1 (w : World) : (ReflectliteType.relation "AssignableTo" ReflectliteType.assignableTo #[.agg #[.pointer (some ⟨9, 72, none⟩)], .iface 241 (.agg #[.pointer (some ⟨9, 72, none⟩)])]).run Tryz.prog w = .ok (.bool true) w := by kernel_rfl
theorem As.valueOf1 (e : Addr) (w : World) : (ReflectliteValue.unpack (.iface 72 (.pointer (some e)))).run Tryz.prog w
    = .ok (.agg #[.pointer (some ⟨9, 72, none⟩), .pointer (some ⟨w.heap.size, 0, none⟩), .int .u64 150]) (w.alloc (.cells #[.pointer (some e)] 72)) := by kernel_rfl
theorem As.elemOf2 (w : World) : (Rtype.elem? 166).run Tryz.prog w = .ok (some 72) w := by kernel_rfl
theorem As.mk1 (p : Addr) (w : World) : (ReflectliteValue.mk 72 p ReflectliteValue.flagAddr).run Tryz.prog w = .ok (.agg #[.pointer (some ⟨9, 72, none⟩), .pointer (some p), .int .u64 406]) w := by kernel_rfl
theorem As.elemV2 (a p : Addr) (W : World) (ha : W.cell? a = some (.pointer (some p))) :
    (ReflectliteValue.method (ReflectliteValue.valueError "reflectlite.Value.Elem" 0) ReflectliteValue.elem #[.agg #[.pointer (some ⟨9, 166, none⟩), .pointer (some a), .int .u64 150]]).run Tryz.prog W
      = .ok (.agg #[.pointer (some ⟨9, 72, none⟩), .pointer (some p), .int .u64 406]) W := by
  rw [As.rlm]
  simp only [Sem.run_bind, As.parts2, Result.andThen]
  simp [ReflectliteValue.elem, loadVar, isAgg, underlying, Tryz.underlying166, ha, Result.andThen, As.elemOf2, As.mk1]
theorem As.rls (v x : Value) : ReflectliteValue.set #[v, x] = (do
    let (some (dst, a, fl), some (src, b, _)) := (← ReflectliteValue.parts v, ← ReflectliteValue.parts x)
      | unsupported (.noEntry "extern/(internal/reflectlite.Value).Set.zeroValue")
    if fl / ReflectliteValue.flagAddr % 2 == 0 then unsupported (.noEntry "extern/(internal/reflectlite.Value).Set.unaddressable")
    let val ← loadVar src b
    if ← Rtype.directlyAssignable dst src then storeVar dst a val
    else if ← Rtype.implements dst src then
      if (← Rtype.kind src) == 20 then
        match val with
        | .nilIface => unsupported (.noEntry "extern/reflectlite: a nil value of one interface type handed on as a value of another")
        | _ => storeVar dst a val
      else storeVar dst a (.iface src val)
    else panicString ("reflectlite.Set: value of type " ++ (← Rtype.spelt src) ++ " is not assignable to type " ++ (← Rtype.spelt dst))
    pure (.tuple #[])) := rfl
theorem As.parts1a (a : Addr) (w : World) : (ReflectliteValue.parts (.agg #[.pointer (some ⟨9, 72, none⟩), .pointer (some a), .int .u64 406])).run Tryz.prog w = .ok (some (72, a, 406)) w := by kernel_rfl
theorem As.parts1 (a : Addr) (w : World) : (ReflectliteValue.parts (.agg #[.pointer (some ⟨9, 72, none⟩), .pointer (some a), .int .u64 150])).run Tryz.prog w = .ok (some (72, a, 150)) w := by kernel_rfl
theorem As.direct1 (w : World) : (Rtype.directlyAssignable 72 72).run Tryz.prog w = .ok true w := by kernel_rfl
theorem As.set1 (ta b e : Addr) (old : Value) (W : World) (hb : W.cell? b = some (.pointer (some e))) (ht : W.cell? ta = some old) (hf : W.frozen? ta = false) :
    (ReflectliteValue.set #[.agg #[.pointer (some ⟨9, 72, none⟩), .pointer (some ta), .int .u64 406], .agg #[.pointer (some ⟨9, 72, none⟩), .pointer (some b), .int .u64 150]]).run Tryz.prog W
      = .ok (.tuple #[]) (W.setCell ta (.pointer (some e))) := by
  rw [As.rls]
  simp only [Sem.run_bind, As.parts1a, As.parts1, Result.andThen]
  simp [ReflectliteValue.flagAddr, loadVar, isAgg, underlying, Tryz.underlying72, hb, Result.andThen, As.direct1, storeVar, Value.cells, storeCells, Addr.add]
  rw [run_store Tryz.prog W ta _ _ (by rfl)]
  simp [ht, hf]
set_option maxHeartbeats 4000000 in
theorem as_hit (e t : Addr) (old : Value) (w : World) (hg : w.cell? ⟨0, 0, none⟩ = some (.iface 241 (.agg #[.pointer (some ⟨9, 69, none⟩)]))) (ht0 : w.cell? t = some old) (hf0 : w.frozen? t = false) :
    Calls Tryz.prog 95 #[.iface 72 (.pointer (some e)), .iface 166 (.pointer (some t))] w fun ev w' => ev = .returned (.bool true) ∧ w' = ((((w.alloc (.cells #[.pointer (some t)] 166)).alloc (.cells #[.pointer (some ⟨9, 166, none⟩), .pointer (some ⟨w.heap.size, 0, none⟩), .int .u64 150] 219)).alloc (.cells #[.pointer (some ⟨9, 166, none⟩), .pointer (some ⟨w.heap.size, 0, none⟩), .int .u64 150] 219)).alloc (.cells #[.pointer (some e)] 72)).setCell t (.pointer (some e)) := by
  have h6 := @run_callFunc_extern Tryz.prog 126 _ (fun args => ReflectliteValue.unpack (args.getD 0 (.tuple #[]))) Tryz.func126 (by kernel_rfl) (by kernel_rfl) (by kernel_rfl) (by kernel_rfl)
  have h7 := @run_callFunc_extern Tryz.prog 127 _ (ReflectliteValue.methodAny (ReflectliteValue.valueError "reflectlite.Value.Type" 0) (fun t _ _ _ => ReflectliteType.toType t)) Tryz.func127 (by kernel_rfl) (by kernel_rfl) (by kernel_rfl) (by kernel_rfl)
  have h8 := @run_callFunc_extern Tryz.prog 128 _ (ReflectliteValue.method (ReflectliteValue.valueError "reflectlite.Value.IsNil" 0) ReflectliteValue.isNil) Tryz.func128 (by kernel_rfl) (by kernel_rfl) (by kernel_rfl) (by kernel_rfl)
  have h27 := @run_callFunc_extern Tryz.prog 262 _ (ReflectliteType.abiMethod fun t => do pure (.int .u8 (← Rtype.kind t))) Tryz.func262 (by kernel_rfl) (by kernel_rfl) (by kernel_rfl) (by kernel_rfl)
  have h37 := @run_callFunc_extern Tryz.prog 275 _ (ReflectliteType.method ReflectliteType.elem) Tryz.func275 (by kernel_rfl) (by kernel_rfl) (by kernel_rfl) (by kernel_rfl)
  have h38 := @run_callFunc_extern Tryz.prog 276 _ (ReflectliteType.relation "Implements" ReflectliteType.implements_) Tryz.func276 (by kernel_rfl) (by kernel_rfl) (by kernel_rfl) (by kernel_rfl)
  have h10 := @run_callFunc_extern Tryz.prog 155 _ ReflectliteType.typeOf Tryz.func155 (by kernel_rfl) (by kernel_rfl) (by kernel_rfl) (by kernel_rfl)
  have h35 := @run_callFunc_extern Tryz.prog 273 _ (ReflectliteType.relation "AssignableTo" ReflectliteType.assignableTo) Tryz.func273 (by kernel_rfl) (by kernel_rfl) (by kernel_rfl) (by kernel_rfl)
  have h11 := @run_callFunc_extern Tryz.prog 156 _ (ReflectliteValue.method (ReflectliteValue.valueError "reflectlite.Value.Elem" 0) ReflectliteValue.elem) Tryz.func156 (by kernel_rfl) (by kernel_rfl) (by kernel_rfl) (by kernel_rfl)
  have h12 := @run_callFunc_extern Tryz.prog 157 _ ReflectliteValue.set Tryz.func157 (by kernel_rfl) (by kernel_rfl) (by kernel_rfl) (by kernel_rfl)
  have tO := As.typeOf1
  have mA := As.methodAssignableTo
  have a25 := As.assignable1
  have v25 := As.valueOf1
  have f6 := As.valueOf2
  have f7 := As.type2
  have mK := As.methodKind
  have mE := As.methodElem
  have mI := As.methodImplements
  have k27 := As.kind2
  have k25 := As.kind1
  have e27 := As.elem2
  have i25 := As.implements1
  have n8 := As.isNil2 ⟨w.heap.size, 0, none⟩ t ((w.alloc (.cells #[.pointer (some t)] 166)).alloc (.cells #[.pointer (some ⟨9, 166, none⟩), .pointer (some ⟨w.heap.size, 0, none⟩), .int .u64 150] 219)) (by simp)
  have hlt : 0 < w.heap.size := by
    rcases Nat.eq_zero_or_pos w.heap.size with h0 | h
    · simp [World.cell?, h0] at hg
    · exact h
  have hg2 : ((w.alloc (.cells #[.pointer (some t)] 166)).alloc (.cells #[.pointer (some ⟨9, 166, none⟩), .pointer (some ⟨w.heap.size, 0, none⟩), .int .u64 150] 219)).cell? ⟨0, 0, none⟩ = some (.iface 241 (.agg #[.pointer (some ⟨9, 69, none⟩)])) := by
    rw [World.cell?_alloc_lt _ _ ⟨0, 0, none⟩ (by simp), World.cell?_alloc_lt _ _ ⟨0, 0, none⟩ hlt]; exact hg
  have htl : t.block < w.heap.size := by
    rcases Nat.lt_or_ge t.block w.heap.size with h | h
    · exact h
    · simp [World.cell?, Array.getElem?_eq_none h] at ht0
  have el := As.elemV2 ⟨w.heap.size, 0, none⟩ t (((w.alloc (.cells #[.pointer (some t)] 166)).alloc (.cells #[.pointer (some ⟨9, 166, none⟩), .pointer (some ⟨w.heap.size, 0, none⟩), .int .u64 150] 219)).alloc (.cells #[.pointer (some ⟨9, 166, none⟩), .pointer (some ⟨w.heap.size, 0, none⟩), .int .u64 150] 219)) (by rw [World.cell?_alloc_lt _ _ ⟨w.heap.size, 0, none⟩ (by simp; omega)]; simp)
  have st := As.set1 t ⟨w.heap.size + 1 + 1 + 1, 0, none⟩ e old ((((w.alloc (.cells #[.pointer (some t)] 166)).alloc (.cells #[.pointer (some ⟨9, 166, none⟩), .pointer (some ⟨w.heap.size, 0, none⟩), .int .u64 150] 219)).alloc (.cells #[.pointer (some ⟨9, 166, none⟩), .pointer (some ⟨w.heap.size, 0, none⟩), .int .u64 150] 219)).alloc (.cells #[.pointer (some e)] 72))
    (by rw [World.cell?_alloc_at _ _ _ _ (by simp)]; rfl)
    (by rw [World.cell?_alloc_lt _ _ t (by simp; omega), World.cell?_alloc_lt _ _ t (by simp; omega), World.cell?_alloc_lt _ _ t (by simp; omega), World.cell?_alloc_lt _ _ t htl]; exact ht0)
    (by rw [World.frozen?_alloc_old _ _ t (by simp; omega), World.frozen?_alloc_old _ _ t (by simp; omega), World.frozen?_alloc_old _ _ t (by simp; omega), World.frozen?_alloc_old _ _ t (Nat.ne_of_lt htl)]; exact hf0)
  go_enter Tryz.func95, Tryz.ntmps95
  go_wp2
  refine wp_loop_rounds 1 ?_
  rw [rounds_succ]
  go_wp2
  go_ret
  exact ⟨rfl, rfl⟩
end Go.Proofs.YtcpdgnkhkdddhaaGreatDoor.Aw

set_option maxRecDepth 100000
set_option linter.unusedVariables false
set_option linter.unusedSimpArgs false
namespace Go.Proofs.YtcpdgnkhkdddhaaGreatDoor.Aw
open Go Go.RowKit
variable {G : Nat → Option (List AV)}

theorem good_alloc {w : World} {S : St} (hg : Good (C G) w S) (o : Obj) : Good (C G) (w.alloc o) S ∧ Adv w S (w.alloc o) S :=
  ⟨hg.mk (hg.1.alloc o) (Adv.alloc o hg.1.fresh), Adv.alloc o hg.1.fresh⟩
/-- What errors.errorType holds. -/
def GAs (G : Nat → Option (List AV)) : Prop := G 0 = some [.raw (.iface 241 (.agg #[.pointer (some ⟨9, 69, none⟩)]))]
theorem as_ok_nil (x : AV) (S : St) : Triple P (C G) 95 [.nili, x] S fun o S' => o = .ret (.bool false) ∧ S' = S := by
  refine Triple.of_calls (x := .bool false) Tryz.func95 rfl (by decide +kernel) (fun w vs hg hr => ?_) ⟨rfl, rfl⟩
  obtain ⟨u, v, hv, r1, r2⟩ := RelL.two hr
  simp only [Rel] at r1
  subst r1
  rw [show vs = #[.nilIface, v] from arr_of_list hv]
  refine (as_nil v w).mono fun e w' he => ?_
  obtain ⟨rfl, rfl⟩ := he
  exact ⟨_, rfl, by simp only [Rel], Below.refl _ _⟩
theorem as_ok_hit (hA : GAs G) (e : Int) {b : Nat} {S : St} (hS : S b = some (.obj 72 [.nilp])) :
    Triple P (C G) 95 [failAV e, .ifc 166 (.ref b 0)] S fun o S' => o = .ret (.bool true) ∧ S' = S.upd b (.obj 72 [.imm [.int .i64 2, .int .i64 0, .int .i64 e]]) := by
  refine Triple.of_callsW Tryz.func95 rfl (by decide +kernel) (fun w vs hg hr => ?_)
  obtain ⟨u, v, hv, r1, r2⟩ := RelL.two hr
  unfold failAV at r1
  simp only [Rel] at r1 r2
  obtain ⟨y, rfl, fb, off, rfl, r3⟩ := r1
  obtain ⟨z, rfl, rfl⟩ := r2
  rw [show vs = #[.iface 72 (.pointer (some ⟨fb, off, none⟩)), .iface 166 (.pointer (some ⟨b, 0, none⟩))] from arr_of_list hv]
  obtain ⟨_, _, h3, _⟩ := hg.2 _ _ hA
  simp only [RelAt] at h3
  obtain ⟨⟨v0, ⟨_, h4, _⟩, h5⟩, _⟩ := h3
  simp only [Rel] at h5
  subst h5
  obtain ⟨cs, k1, k2, k3⟩ := hg.1 b _ hS
  obtain ⟨u0, hu0, h6⟩ := RelL.one k2
  simp only [Rel] at h6
  subst h6
  obtain rfl : cs = #[.pointer none] := arr_of_list hu0
  refine (as_hit ⟨fb, off, none⟩ ⟨b, 0, none⟩ (.pointer none) w h4 (by rw [Lib.cell_of_heap k1]; rfl) (by simp [World.frozen?, k1])).mono fun ev w' he => ?_
  obtain ⟨rfl, rfl⟩ := he
  obtain ⟨g1, a1⟩ := good_alloc hg (.cells #[.pointer (some ⟨b, 0, none⟩)] 166)
  obtain ⟨g2, a2⟩ := good_alloc g1 (.cells #[.pointer (some ⟨9, 166, none⟩), .pointer (some ⟨w.heap.size, 0, none⟩), .int .u64 150] 219)
  obtain ⟨g3, a3⟩ := good_alloc g2 (.cells #[.pointer (some ⟨9, 166, none⟩), .pointer (some ⟨w.heap.size, 0, none⟩), .int .u64 150] 219)
  obtain ⟨g4, a4⟩ := good_alloc g3 (.cells #[.pointer (some ⟨fb, off, none⟩)] 72)
  have aa := ((a1.trans a2).trans a3).trans a4
  generalize (((w.alloc _).alloc _).alloc _).alloc _ = w4 at *
  obtain ⟨cs, k1', k2', k3'⟩ := g4.1 b _ hS
  obtain ⟨u0, hu0, h6⟩ := RelL.one k2'
  simp only [Rel] at h6
  subst h6
  obtain rfl : cs = #[.pointer none] := arr_of_list hu0
  obtain ⟨r1, r2⟩ := setCell_row k1' (.pointer (some ⟨fb, off, none⟩))
  obtain ⟨q1, q2⟩ := good_row (w' := w4.setCell ⟨b, 0, none⟩ (.pointer (some ⟨fb, off, none⟩))) (cells' := [.imm [.int .i64 2, .int .i64 0, .int .i64 e]]) g4 hS k1' rfl rfl rfl (by simp [World.setCell]) r2 r1 (by simp) (by
      simp only [RelL, Rel]
      exact ⟨_, _, rfl, ⟨_, _, rfl, RelAt.mono aa _ _ _ r3⟩, rfl⟩) (by
      intro v hv
      simp only [Array.toList_setIfInBounds, List.set_cons_zero, List.mem_cons, List.not_mem_nil, or_false] at hv
      subst hv; rfl)
  exact ⟨_, .bool true, _, rfl, by simp only [Rel], q1, aa.trans q2, rfl, rfl⟩
/-- proof.Parse. -/
def parseP (s : ByteArray) : StepV × Int := if (parseW (wordsL s)).2 = 0 then ((parseW (wordsL s)).1, 0) else (zeroV, (parseW (wordsL s)).2)
theorem Parse_line_ok (hG : GS G) (hA : GAs G) (s : ByteArray) (hs : s.size ≤ 8999999) (S : St) :
    Triple P (C G) 43 [.str s] S fun o S' => o = .ret (.tu [stepAV (parseP s).1, .int .i64 (parseP s).2]) ∧ S' = S := by
  have hp := fun S => parse_ok (G := G) hG s hs S
  unfold parseP
  generalize parseW (wordsL s) = r at *
  obtain ⟨v, e⟩ := r
  dsimp only at hp ⊢
  refine triple_of_awp (hT G) hm Tryz.func43 rfl (by decide +kernel) rfl (by decide +kernel) (by show 1 ≤ _; decide +kernel) rfl ?_
  refine awp_seq2 fun K hK hQ => ?_
  conv => whnf
  intro b2 hb2
  conv => whnf
  refine hK _ _ ?_
  clear hK hQ K
  have hfin : ∀ (o2 o2' o4 o4' o6 : Own) (b4 b6 : Nat), (S.upd b2 o2) b4 = none → (((S.upd b2 o2).upd b4 o4).upd b4 o4') b6 = none → St.le S (((((S.upd b2 o2).upd b4 o4).upd b4 o4').upd b6 o6).upd b2 o2') := fun o2 o2' o4 o4' o6 b4 b6 hb4 hb6 => by
    rw [St.upd_upd] at hb6 ⊢
    exact St.le_upd (St.le_upd' (St.le_upd' (St.le_upd' (St.le_refl _) hb2 _) hb4 _) hb6 _) hb2 _
  have hfin2 : ∀ (o2 o2' o4 o4' o6 o6' : Own) (b4 b6 : Nat), (S.upd b2 o2) b4 = none → (((S.upd b2 o2).upd b4 o4).upd b4 o4') b6 = none → St.le S ((((((S.upd b2 o2).upd b4 o4).upd b4 o4').upd b6 o6).upd b6 o6').upd b2 o2') := fun o2 o2' o4 o4' o6 o6' b4 b6 hb4 hb6 => by
    rw [St.upd_upd _ b6]
    exact hfin _ _ _ _ _ _ _ hb4 hb6
  refine awp_seq2 fun K hK hQ => ?_
  by_cases he : e = 0
  · simp only [if_pos he] at hK hQ
    simp only [errAV, if_pos he] at hp
    conv => whnf
    refine (hp _).mono ?_
    rintro o S' ⟨rfl, rfl⟩
    conv => whnf
    intro b4 hb4
    conv => whnf
    refine ⟨_, _, St.upd_same _ _ _, ?_⟩
    conv => whnf
    refine hK _ _ ?_
    clear hK hQ K
    refine awp_seq2 fun K hK hQ => ?_
    conv => whnf
    intro b6 hb6
    conv => whnf
    refine hK _ _ ?_
    clear hK hQ K
    refine awp_seq2 fun K hK hQ => ?_
    conv => whnf
    refine (as_ok_nil _ _).mono ?_
    rintro o S' ⟨rfl, rfl⟩
    conv => whnf
    refine hK _ _ ?_
    clear hK hQ K
    conv => whnf
    refine ⟨_, _, St.up hb6 (St.upd_same _ _ _), ?_⟩
    conv => whnf
    refine ⟨_, _, St.up hb6 (by rw [St.upd_upd]; exact St.up hb4 (St.upd_same _ _ _)), ?_⟩
    conv => whnf
    refine ⟨_, _, St.upd_same _ _ _, ?_⟩
    conv => whnf
    refine ⟨_, _, ⟨rfl, rfl⟩, ?_, AV.leS_refl _ _ _⟩
    exact hfin _ _ _ _ _ _ _ hb4 hb6
  · simp only [if_neg he] at hK hQ
    simp only [errAV, if_neg he] at hp
    conv => whnf
    refine (hp _).mono ?_
    rintro o S' ⟨rfl, rfl⟩
    conv => whnf
    intro b4 hb4
    conv => whnf
    refine ⟨_, _, St.upd_same _ _ _, ?_⟩
    conv => whnf
    refine hK _ _ ?_
    clear hK hQ K
    refine awp_seq2 fun K hK hQ => ?_
    conv => whnf
    intro b6 hb6
    conv => whnf
    refine hK _ _ ?_
    clear hK hQ K
    refine awp_seq2 fun K hK hQ => ?_
    conv => whnf
    refine (as_ok_hit hA e (St.upd_same _ _ _)).mono ?_
    rintro o S' ⟨rfl, rfl⟩
    have q2 : ∀ o4 o4' o6 o6' : Own, ((((((S.upd b2 (.obj 54 stepZ)).upd b4 o4).upd b4 o4').upd b6 o6).upd b6 o6') b2 = some (.obj 54 stepZ)) := fun o4 o4' o6 o6' => by
      rw [St.upd_upd, St.upd_upd]
      have n1 : b2 ≠ b4 := (St.ne_upd hb4).symm
      have n2 : b2 ≠ b6 := (St.ne_upd (by rw [St.upd_upd] at hb6; exact St.no hb6)).symm
      exact St.ov n2 (St.ov n1 (St.upd_same _ _ _))
    have n62 : b6 ≠ b2 := St.ne_upd (by rw [St.upd_upd] at hb6; exact St.no hb6)
    refine ⟨[], (.free 0 (.one 1 (.free 2 (.free 3 (.one 4 (.one 5 (.free 6 .done) .none) (.one 5 (.free 4 (.free 6 .done)) .none)))) (.one 5 (.free 1 (.free 2 (.free 3 (.free 4 (.free 6 .done))))) .none))), _, by decide +kernel, ?_, fun _ _ h => ⟨_, .inl rfl, h⟩⟩
    conv => whnf
    refine ⟨?_, ?_⟩
    · refine ⟨_, _, St.upd_same _ _ _, ?_⟩
      conv => whnf
      refine ⟨?_, ?_⟩
      · conv => whnf
        refine ⟨_, _, q2 _ _ _ _, ?_⟩
        conv => whnf
        refine hQ _ _ _ (by simp) ?_
        conv => whnf
        refine ⟨_, _, St.upd_same _ _ _, ?_⟩
        conv => whnf
        refine ⟨_, _, ⟨rfl, rfl⟩, hfin2 _ _ _ _ _ _ _ _ hb4 hb6, ⟨⟨rfl, rfl, rfl, rfl, rfl, rfl, rfl, rfl, rfl, rfl, rfl⟩, rfl, rfl⟩⟩
      · refine ⟨_, _, q2 _ _ _ _, ?_⟩
        conv => whnf
        refine hQ _ _ _ (by simp) ?_
        conv => whnf
        refine ⟨_, _, St.upd_same _ _ _, ?_⟩
        conv => whnf
        refine ⟨_, _, ⟨rfl, rfl⟩, hfin2 _ _ _ _ _ _ _ _ hb4 hb6, ⟨⟨rfl, rfl, rfl, rfl, rfl, rfl, rfl, rfl, rfl, rfl, rfl⟩, rfl, rfl⟩⟩
    · refine ⟨_, _, q2 _ _ _ _, ?_⟩
      conv => whnf
      refine ⟨_, _, St.ov n62 (St.upd_same _ _ _), ?_⟩
      conv => whnf
      refine hQ _ _ _ (by simp) ?_
      conv => whnf
      refine ⟨_, _, St.upd_same _ _ _, ?_⟩
      conv => whnf
      refine ⟨_, _, ⟨rfl, rfl⟩, hfin2 _ _ _ _ _ _ _ _ hb4 hb6, ⟨⟨rfl, rfl, rfl, rfl, rfl, rfl, rfl, rfl, rfl, rfl, rfl⟩, rfl, rfl⟩⟩
end Go.Proofs.YtcpdgnkhkdddhaaGreatDoor.Aw

set_option maxRecDepth 100000
set_option linter.unusedVariables false
set_option linter.unusedSimpArgs false
namespace Go.Proofs.YtcpdgnkhkdddhaaGreatDoor.Aw
open Go Go.RowKit

theorem splitB_size (sep : ByteArray) (sv : Nat) : ∀ (k : Nat) (s : ByteArray), ∀ x ∈ Lib.splitB sep sv k s, x.size ≤ s.size
  | 0, s => by intro x hx; rw [Lib.splitB_zero] at hx; simp at hx; rw [hx]; exact Nat.le_refl _
  | k + 1, s => by
    intro x hx
    unfold Lib.splitB at hx
    split at hx
    · simp at hx; rw [hx]; exact Nat.le_refl _
    · rcases List.mem_cons.1 hx with rfl | hx
      · rw [ByteArray.size_extract]; omega
      · have := splitB_size sep sv k _ x hx
        rw [ByteArray.size_extract] at this; omega
theorem linesOf_size (s : ByteArray) : ∀ x ∈ linesOf s, x.size ≤ s.size := by
  intro x hx
  unfold linesOf at hx
  dsimp only at hx
  have hm : x ∈ splitS s sepNL := by
    split at hx
    · exact List.mem_of_mem_take hx
    · exact hx
  exact splitB_size _ _ _ _ x hm
theorem linesOf_len (s : ByteArray) : (linesOf s).length ≤ s.size + 1 := by
  have := splitS_le s sepNL (by decide)
  unfold linesOf
  dsimp only
  split
  · rw [List.length_take]; omega
  · omega
end Go.Proofs.YtcpdgnkhkdddhaaGreatDoor.Aw

set_option maxRecDepth 100000
set_option linter.unusedVariables false
set_option linter.unusedSimpArgs false
namespace Go.Proofs.YtcpdgnkhkdddhaaGreatDoor.Aw
open Go Go.RowKit
variable {G : Nat → Option (List AV)}

def stepR (v : StepV) : List AV := [.int .i64 v.kind, .str v.num, .sl .any 3 (rowsO v.ops), .sl .any 2 (rowsP v.pieces), .str v.bound, .sl .any 1 (rowsI v.lits), .sl .any 1 (rowsS v.ids), .int .i64 v.n6, .str v.s7, .str v.s8]
def rowsT (l : List StepV) : List (List AV) := l.map stepR
@[simp] theorem rowsT_len (l : List StepV) : (rowsT l).length = l.length := by simp [rowsT]
/-- Line by line: the steps, or the fault's line and number. -/
def readL : List ByteArray → List StepV → List StepV × Option (Nat × Int)
  | [], acc => (acc, none)
  | s :: l, acc => if (parseP s).2 = 0 then readL l (acc ++ [(parseP s).1]) else (acc, some (acc.length + 1, (parseP s).2))
def readAV (r : List StepV × Option (Nat × Int)) : AV := match r.2 with
  | none => .tu [.sl .any 10 (rowsT r.1), .nili]
  | some (i, c) => .tu [.nils, .ifc 72 (.imm [.int .i64 2, .int .i64 (i : Int), .int .i64 c])]
theorem Read_ok {m : Int} (hM : G 1 = some [.int .i64 m]) (hG : GS G) (hA : GAs G) (s : ByteArray) (hs : s.size < 100000001) (hpl : ∀ x ∈ linesOf s, x.size ≤ 8999999) (S : St) :
    Triple P (C G) 34 [.str s] S fun o S' => o = .ret (readAV (readL (linesOf s) [])) ∧ S' = S := by
  have hlen : (linesOf s).length ≤ s.size + 1 := by
    have := splitS_le s sepNL (by decide)
    unfold linesOf
    dsimp only
    split
    · rw [List.length_take]; omega
    · omega
  have hl := fun S => lines_ok (G := G) hM s hs S
  generalize linesOf s = ls at *
  refine triple_of_awp (hT G) hm Tryz.func34 rfl (by decide +kernel) rfl (by decide +kernel) (by show 1 ≤ _; decide +kernel) rfl ?_
  refine awp_seq2 fun K hK hQ => ?_
  conv => whnf
  refine hK _ _ ?_
  clear hK hQ K
  refine awp_seq2 fun K hK hQ => ?_
  conv => whnf
  refine hK _ _ ?_
  clear hK hQ K
  refine awp_seq2 fun K hK hQ => ?_
  conv => whnf
  refine (hl _).mono ?_
  rintro o S' ⟨rfl, rfl⟩
  conv => whnf
  intro _
  conv => whnf
  refine ⟨⟨Nat × List StepV × Nat, fun x => [(0, .str s), (4, .sl (.acc x.2.2) 10 (rowsT x.2.1)), (10, .sl .any 1 (rowsS ls)), (11, .int .i64 (ls.length : Int)), (12, .int .i64 (x.1 : Int))],
    fun x S1 => AccOk S' S1 54 10 x.2.2 x.2.1.length ∧ x.1 ≤ ls.length ∧ x.2.1.length = x.1 ∧ readL (ls.drop x.1) x.2.1 = readL ls [], fun x => ls.length - x.1⟩,
    ⟨(0, [], 0), ⟨rfl, rfl, ⟨rfl, rfl⟩, congrArg (AV.int .i64) (by rw [rowsS_len]), rfl, trivial⟩, _, St.leW_refl _, AccOk.init _ _ _ _, by omega, rfl, rfl⟩, ?_⟩
  rintro ⟨i, acc, ba⟩ S1 ⟨h1, h2, h3, h4⟩
  dsimp only at h1 h2 h3 h4
  conv => whnf
  refine split_of (fun hlt => ?_) (fun hlt => ?_)
  · have hlt : i < ls.length := by have := of_decide_eq_true hlt; omega
    have hd : ls.drop i = ls[i] :: ls.drop (i + 1) := List.drop_eq_getElem_cons hlt
    rw [hd] at h4
    have hxs : ls[i].size ≤ 8999999 := hpl _ (List.getElem_mem hlt)
    have hp := fun S => Parse_line_ok (G := G) hG hA ls[i] hxs S
    simp only [readL] at h4
    generalize hgi : ls[i] = x at *
    generalize (parseP x).1 = v at *
    generalize (parseP x).2 = e at *
    conv => whnf
    refine ⟨[.str x], ⟨by omega, by rw [← hgi]; simp [rowsS, hlt]⟩, ?_⟩
    conv => whnf
    refine (hp _).mono ?_
    rintro o T ⟨rfl, rfl⟩
    conv => whnf
    intro b7 hb7
    conv => whnf
    refine ⟨_, _, St.upd_same _ _ _, ?_⟩
    conv => whnf
    rw [St.upd_upd]
    have w1 : IntKind.i64.wrap ((i : Int) + 1) = ((i + 1 : Nat) : Int) := wrap_nat (by omega)
    refine split_of (fun he => ?_) (fun he => ?_)
    · have he : ¬ e = 0 := by simpa using he
      rw [if_neg he] at h4
      rw [← h4] at hQ
      conv => whnf
      intro b8 hb8
      conv => whnf
      refine hQ _ _ _ (by simp) ?_
      conv => whnf
      rw [w1]
      have hle : St.le S' ((T.upd b7 (.obj 54 (stepR v))).upd b8 (.obj 75 [.int .i64 2, .int .i64 ((i + 1 : Nat) : Int), .int .i64 e])) := St.le_trans h1.le (St.le_upd' (St.le_upd' (St.le_refl _) hb7 _) hb8 _)
      refine ⟨_, _, ⟨rfl, rfl⟩, hle, ?_⟩
      refine ⟨rfl, ⟨rfl, St.le_none (St.le_trans h1.le (St.le_upd' (St.le_refl _) hb7 _)) hb8, _, _, St.upd_same _ _ _, ?_⟩, rfl⟩
      rw [h3]; rfl
    · have he : e = 0 := by simpa using he
      rw [if_pos he] at h4
      clear hK hQ
      have h1' : AccOk S' (T.upd b7 (.obj 54 (stepR v))) 54 10 ba acc.length := h1.other hb7 _
      conv => whnf
      refine ⟨_, _, St.upd_same _ _ _, ?_⟩
      conv => whnf
      intro bb hbb
      have h1'' := h1'.other hbb (.tip 54 10 1)
      conv => whnf
      refine ⟨⟨fun hl => ?_, ?_⟩, fun S4 c1 c2 b' c3 => ?_⟩
      · have : 0 < acc.length := by cases acc with
          | nil => exact absurd rfl hl
          | cons _ _ => simp
        rw [rowsT_len]; exact h1''.tip this
      · show ((rowsT acc).length + 1) * 176 ≤ _
        rw [rowsT_len]; omega
      have h5 := h1''.push (m := acc.length + 1) (by rw [rowsT_len]) c1 c2 c3 rfl
      rw [rowsT_len]
      conv => whnf
      refine ⟨(i + 1, acc ++ [v], b'), ⟨rfl, congrArg (AV.sl (.acc b') 10) (show rowsT acc ++ [stepR v] = rowsT (acc ++ [v]) by simp [rowsT]), ⟨rfl, rfl⟩, rfl, congrArg _ w1, trivial⟩, ⟨_, St.leW_refl _, by rw [show (acc ++ [v]).length = acc.length + 1 by simp]; exact h5, by show i + 1 ≤ _; omega, by simp [h3], h4⟩, by show ls.length - (i + 1) < ls.length - i; omega⟩
  · have hlt : i = ls.length := by have := of_decide_eq_false hlt; omega
    rw [hlt, List.drop_length] at h4
    rw [← h4] at hK
    conv => whnf
    refine hK _ _ ?_
    clear hK hQ K
    conv => whnf
    refine ⟨_, _, ⟨rfl, rfl⟩, h1.le, ⟨⟨rfl, rfl⟩, rfl, rfl⟩⟩
end Go.Proofs.YtcpdgnkhkdddhaaGreatDoor.Aw

set_option maxRecDepth 100000
set_option linter.unusedVariables false
set_option linter.unusedSimpArgs false
namespace Go.Proofs.YtcpdgnkhkdddhaaGreatDoor.Aw
open Go Go.RowKit
variable {G : Nat → Option (List AV)}

def okI (z : Int) : Prop := -9223372036854775808 ≤ z ∧ z ≤ 9223372036854775807
def litT (z : Int) : ByteArray := if z < 0 then (⟨#[126, 120]⟩ : ByteArray) ++ itoaS (IntKind.i64.wrap (0 - z)) else (⟨#[120]⟩ : ByteArray) ++ itoaS z
theorem wrap_okI (z : Int) : okI (IntKind.i64.wrap z) := by
  unfold okI
  rw [IntKind.wrap_i64]
  omega
theorem itoaS_le (z : Int) (h0 : -9223372036854775808 ≤ z) (h1 : z ≤ 9223372036854775807) : (itoaS z).size ≤ 21 := by rw [itoaS_size]; exact Lib.itoa_length_le z h0 h1
theorem litText_ok (hG : G10 G) (z : Int) (hz : okI z) (S : St) : Triple P (C G) 119 [.int .i64 z] S fun o S' => o = .ret (.str (litT z)) ∧ S' = S := by
  refine triple_of_awp (hT G) hm Tryz.func119 rfl (by decide +kernel) rfl (by decide +kernel) (by show 1 ≤ _; decide +kernel) rfl ?_
  conv => whnf
  refine split_of (fun h => ?_) (fun h => ?_)
  · have h := of_decide_eq_true h
    have hw := wrap_okI (0 - z)
    unfold litT
    rw [if_pos h]
    conv => whnf
    generalize IntKind.i64.wrap (0 - z) = y at *
    refine (itoa_ok hG y hw.1 hw.2 _).mono ?_
    rintro o S' ⟨rfl, rfl⟩
    conv => whnf
    refine ⟨by have := itoaS_le y hw.1 hw.2; show 2 + _ ≤ _; omega, ?_⟩
    conv => whnf
    exact ⟨_, _, ⟨rfl, rfl⟩, St.le_refl _, AV.leS_refl _ _ _⟩
  · have h := of_decide_eq_false h
    unfold litT
    rw [if_neg h]
    conv => whnf
    refine (itoa_ok hG z hz.1 hz.2 _).mono ?_
    rintro o S' ⟨rfl, rfl⟩
    conv => whnf
    refine ⟨by have := itoaS_le z hz.1 hz.2; show 1 + _ ≤ _; omega, ?_⟩
    conv => whnf
    exact ⟨_, _, ⟨rfl, rfl⟩, St.le_refl _, AV.leS_refl _ _ _⟩
theorem ba_size_append (a b : ByteArray) : (a ++ b).size = a.size + b.size := ByteArray.size_append
theorem litT_size (z : Int) (hz : okI z) : (litT z).size ≤ 23 := by
  unfold litT
  split
  · have := itoaS_le (IntKind.i64.wrap (0 - z)) (wrap_okI _).1 (wrap_okI _).2
    rw [ba_size_append]; show 2 + _ ≤ _; omega
  · have := itoaS_le z hz.1 hz.2
    rw [ba_size_append]; show 1 + _ ≤ _; omega
def litsT (l : List Int) : List ByteArray := l.map litT
theorem litTexts_ok (hG : G10 G) (l : List Int) (hl : ∀ z ∈ l, okI z) (hn : l.length ≤ 100000000) (S : St) : Triple P (C G) 91 [.sl .any 1 (rowsI l)] S fun o S' => o = .ret (.sl .any 1 (rowsS (litsT l))) ∧ S' = S := by
  refine triple_of_awp (hT G) hm Tryz.func91 rfl (by decide +kernel) rfl (by decide +kernel) (by show 1 ≤ _; decide +kernel) rfl ?_
  conv => whnf
  intro _
  conv => whnf
  refine ⟨⟨Nat × Nat, fun (i, ba) => [(0, .sl .any 1 (rowsI l)), (3, .sl (.acc ba) 1 (rowsS (litsT (l.take i)))), (6, .sl .any 1 (rowsI l)), (7, .int .i64 (l.length : Int)), (8, .int .i64 (i : Int))],
    fun (i, ba) S1 => AccOk S S1 9 1 ba (litsT (l.take i)).length ∧ i ≤ l.length, fun (i, _) => l.length - i⟩,
    ⟨(0, 0), ⟨⟨rfl, rfl⟩, rfl, ⟨rfl, rfl⟩, congrArg (AV.int .i64) (by rw [rowsI_len]), rfl, trivial⟩, _, St.leW_refl _, AccOk.init _ _ _ _, by omega⟩, ?_⟩
  rintro ⟨i, ba⟩ S1 ⟨h1, h2⟩
  have hlen : (litsT (l.take i)).length = i := by simp [litsT]; omega
  conv => whnf
  refine split_of (fun hlt => ?_) (fun hlt => ?_)
  · have hlt : i < l.length := by have := of_decide_eq_true hlt; omega
    have hsn : litsT (l.take (i + 1)) = litsT (l.take i) ++ [litT l[i]] := by rw [List.take_add_one, litsT, List.map_append]; simp [litsT, hlt]
    have hz := hl _ (List.getElem_mem hlt)
    have hgr : (rowsI l)[(i : Int).toNat]? = some [.int .i64 l[i]] := by simp [rowsI, hlt]
    generalize l[i] = z at *
    conv => whnf
    refine ⟨_, ⟨by omega, hgr⟩, ?_⟩
    conv => whnf
    refine (litText_ok hG z hz _).mono ?_
    rintro o T ⟨rfl, rfl⟩
    conv => whnf
    intro bb hbb
    have h1' := h1.other hbb (.tip 9 1 1)
    conv => whnf
    refine ⟨⟨fun hl => ?_, ?_⟩, fun S4 c1 c2 b' c3 => ?_⟩
    · have : 0 < (litsT (l.take i)).length := by
        cases hx : litsT (l.take i) with
        | nil => rw [hx] at hl; exact absurd rfl hl
        | cons _ _ => simp
      rw [rowsS_len]; exact h1'.tip this
    · show ((rowsS (litsT (l.take i))).length + 1) * 16 ≤ _
      rw [rowsS_len]; omega
    have h5 := h1'.push (m := (litsT (l.take i)).length + 1) (by rw [rowsS_len]) c1 c2 c3 rfl
    rw [rowsS_len]
    have w1 : IntKind.i64.wrap ((i : Int) + 1) = ((i + 1 : Nat) : Int) := wrap_nat (by omega)
    conv => whnf
    refine ⟨(i + 1, b'), ⟨⟨rfl, rfl⟩, congrArg (AV.sl (.acc b') 1) (show rowsS (litsT (l.take i)) ++ [[AV.str (litT z)]] = rowsS (litsT (l.take (i + 1))) by rw [hsn]; exact rowsS_snoc _ _), ⟨rfl, rfl⟩, rfl, congrArg _ w1, trivial⟩, ⟨_, St.leW_refl _, by rw [hsn, show (litsT (l.take i) ++ [litT z]).length = (litsT (l.take i)).length + 1 by simp]; exact h5, by show i + 1 ≤ _; omega⟩, by show l.length - (i + 1) < l.length - i; omega⟩
  · have hlt : i = l.length := by have := of_decide_eq_false hlt; omega
    subst hlt
    conv => whnf
    refine ⟨_, _, ⟨rfl, rfl⟩, h1.le, ⟨rfl, by rw [List.take_length]⟩⟩
def spS (s : ByteArray) : ByteArray := s
def opT (o : OpV) : ByteArray :=
  if o.1 = 1 then o.2.1 else if o.1 = 2 then litT o.2.2 else if o.1 = 3 then ⟨#[43]⟩ else if o.1 = 4 then o.2.1 ++ (⟨#[32, 42]⟩ : ByteArray) else if o.1 = 5 then o.2.1 ++ (⟨#[32, 100]⟩ : ByteArray)
  else if o.1 = 6 then ⟨#[115]⟩ else if o.1 = 7 then litT o.2.2 ++ (⟨#[32, 119]⟩ : ByteArray) else ⟨#[]⟩
theorem opText_ok (hG : G10 G) (o : OpV) (hz : okI o.2.2) (hs : o.2.1.size ≤ 1000000000) (S : St) : Triple P (C G) 89 [opAV o] S fun r S' => r = .ret (.str (opT o)) ∧ S' = S := by
  obtain ⟨k, num, z⟩ := o
  have hlz := litT_size z hz
  show Triple P (C G) 89 [.ag [.int .i64 k, .str num, .int .i64 z]] S fun r S' => r = .ret (.str (opT (k, num, z))) ∧ S' = S
  refine triple_of_awp (hT G) hm Tryz.func89 rfl (by decide +kernel) rfl (by decide +kernel) (by show 1 ≤ _; decide +kernel) rfl ?_
  refine awp_seq2 fun K hK hQ => ?_
  conv => whnf
  intro b hb
  conv => whnf
  refine hK _ _ ?_
  clear hK hQ K
  refine awp_seq2 fun K hK hQ => ?_
  conv => whnf
  refine ⟨_, _, St.upd_same _ _ _, ?_⟩
  conv => whnf
  have hle := St.le_upd' (St.le_refl S) hb (.obj 123 [.int .i64 k, .str num, .int .i64 z])
  have q := St.upd_same S b (.obj 123 [.int .i64 k, .str num, .int .i64 z])
  generalize S.upd b (.obj 123 [.int .i64 k, .str num, .int .i64 z]) = S1 at *
  refine split_of (fun h => ?_) (fun h => ?_)
  · have h1 : k = 1 := by simpa using h
    rw [show opT (k, num, z) = num from by simp [opT, h1]] at hQ
    clear hK
    conv => whnf
    refine ⟨_, _, q, ?_⟩
    conv => whnf
    refine hQ _ _ _ (by simp) ?_
    conv => whnf
    exact ⟨_, _, ⟨rfl, rfl⟩, hle, AV.leS_refl _ _ _⟩
  have h1 : ¬ k = 1 := by simpa using h
  conv => whnf
  refine split_of (fun h => ?_) (fun h => ?_)
  · have h2 : k = 2 := by simpa using h
    rw [show opT (k, num, z) = litT z from by simp [opT, h2]] at hQ
    clear hK
    conv => whnf
    refine ⟨_, _, q, ?_⟩
    conv => whnf
    refine (litText_ok hG z hz _).mono ?_
    rintro r S' ⟨rfl, rfl⟩
    conv => whnf
    refine hQ _ _ _ (by simp) ?_
    conv => whnf
    exact ⟨_, _, ⟨rfl, rfl⟩, hle, AV.leS_refl _ _ _⟩
  have h2 : ¬ k = 2 := by simpa using h
  conv => whnf
  refine split_of (fun h => ?_) (fun h => ?_)
  · have h3 : k = 3 := by simpa using h
    rw [show opT (k, num, z) = (⟨#[43]⟩ : ByteArray) from by simp [opT, h3]] at hQ
    clear hK
    conv => whnf
    refine hQ _ _ _ (by simp) ?_
    conv => whnf
    exact ⟨_, _, ⟨rfl, rfl⟩, hle, AV.leS_refl _ _ _⟩
  have h3 : ¬ k = 3 := by simpa using h
  conv => whnf
  refine split_of (fun h => ?_) (fun h => ?_)
  · have h4 : k = 4 := by simpa using h
    rw [show opT (k, num, z) = num ++ (⟨#[32, 42]⟩ : ByteArray) from by simp [opT, h4]] at hQ
    clear hK
    conv => whnf
    refine ⟨_, _, q, ?_⟩
    conv => whnf
    refine ⟨by show num.size + 2 ≤ _; dsimp only at hs; omega, ?_⟩
    conv => whnf
    refine hQ _ _ _ (by simp) ?_
    conv => whnf
    exact ⟨_, _, ⟨rfl, rfl⟩, hle, AV.leS_refl _ _ _⟩
  have h4 : ¬ k = 4 := by simpa using h
  conv => whnf
  refine split_of (fun h => ?_) (fun h => ?_)
  · have h5 : k = 5 := by simpa using h
    rw [show opT (k, num, z) = num ++ (⟨#[32, 100]⟩ : ByteArray) from by simp [opT, h5]] at hQ
    clear hK
    conv => whnf
    refine ⟨_, _, q, ?_⟩
    conv => whnf
    refine ⟨by show num.size + 2 ≤ _; dsimp only at hs; omega, ?_⟩
    conv => whnf
    refine hQ _ _ _ (by simp) ?_
    conv => whnf
    exact ⟨_, _, ⟨rfl, rfl⟩, hle, AV.leS_refl _ _ _⟩
  have h5 : ¬ k = 5 := by simpa using h
  conv => whnf
  refine split_of (fun h => ?_) (fun h => ?_)
  · have h6 : k = 6 := by simpa using h
    rw [show opT (k, num, z) = (⟨#[115]⟩ : ByteArray) from by simp [opT, h6]] at hQ
    clear hK
    conv => whnf
    refine hQ _ _ _ (by simp) ?_
    conv => whnf
    exact ⟨_, _, ⟨rfl, rfl⟩, hle, AV.leS_refl _ _ _⟩
  have h6 : ¬ k = 6 := by simpa using h
  conv => whnf
  refine split_of (fun h => ?_) (fun h => ?_)
  · have h7 : k = 7 := by simpa using h
    rw [show opT (k, num, z) = litT z ++ (⟨#[32, 119]⟩ : ByteArray) from by simp [opT, h7]] at hQ
    clear hK
    conv => whnf
    refine ⟨_, _, q, ?_⟩
    conv => whnf
    refine (litText_ok hG z hz _).mono ?_
    rintro r S' ⟨rfl, rfl⟩
    conv => whnf
    refine ⟨by show (litT z).size + 2 ≤ _; omega, ?_⟩
    conv => whnf
    refine hQ _ _ _ (by simp) ?_
    conv => whnf
    exact ⟨_, _, ⟨rfl, rfl⟩, hle, AV.leS_refl _ _ _⟩
  have h7 : ¬ k = 7 := by simpa using h
  conv => whnf
  refine hK _ _ ?_
  clear hK hQ K
  conv => whnf
  rw [show opT (k, num, z) = (⟨#[]⟩ : ByteArray) from by simp [opT, h1, h2, h3, h4, h5, h6, h7]]
  exact ⟨_, _, ⟨rfl, rfl⟩, hle, AV.leS_refl _ _ _⟩
end Go.Proofs.YtcpdgnkhkdddhaaGreatDoor.Aw

set_option maxRecDepth 100000
set_option linter.unusedVariables false
set_option linter.unusedSimpArgs false
namespace Go.Proofs.YtcpdgnkhkdddhaaGreatDoor.Aw
open Go Go.RowKit
variable {G : Nat → Option (List AV)}

def joinS (l : List ByteArray) (sep : ByteArray) : ByteArray := ⟨(Lib.join (l.map (·.data.toList)) sep.data.toList).toArray⟩
theorem join_ok (l : List ByteArray) (sep : ByteArray) (hn : l.length ≤ 140737488355328) (hlen : (joinS l sep).size ≤ 140737488355328) (S : St) : Triple P (C G) 93 [.sl .any 1 (rowsS l), .str sep] S fun o S' => o = .ret (.str (joinS l sep)) ∧ S' = S := by
  refine Triple.of_calls (x := .str (joinS l sep)) Tryz.func93 rfl (by decide +kernel) (fun w vs hg hr => ?_) ⟨rfl, rfl⟩
  obtain ⟨u, v, hv, r1, r2⟩ := RelL.two hr
  simp only [Rel] at r1 r2
  subst r2
  have hl0 : l = [] → ∀ a c, vs = #[.slice a 0 c, .string sep] → Calls P 93 vs w fun e w' => ∃ v, e = .returned v ∧ Rel w' (rdOf S) (.str (joinS l sep)) v ∧ Below w.heap.size w w' := by
    rintro rfl a c rfl
    refine (Tryz.strings_Join_none a c sep w).mono fun e w' he => ?_
    obtain ⟨rfl, rfl⟩ := he
    exact ⟨_, rfl, by simp only [Rel]; rfl, Below.refl _ _⟩
  have hrl : ∀ l : List ByteArray, rowsS l = [] → l = [] := fun l h => by simpa [rowsS] using h
  rcases r1 with ⟨_, h, hz⟩ | ⟨b, off, cap, rfl, h1, h2, _, h4⟩
  · obtain ⟨ap, rfl⟩ := hz.slice
    exact hl0 (hrl l h) ap 0 (arr_of_list hv)
  · by_cases hl : l = []
    · subst hl
      exact hl0 rfl _ cap (arr_of_list hv)
    · rw [rowsS_len] at h1
      have hcell : ∀ (j : Nat) x, l[j]? = some x → w.cell? ⟨b, off + j, none⟩ = some (.string x) := fun j x hx => by
        obtain ⟨g1, g2⟩ := RelRows.get h4 j [.str x] (by simp [rowsS, hx])
        obtain ⟨v, ⟨g3, g4, g5⟩, g6⟩ := RelAt.get g2 0 _ rfl
        simp only [Rel] at g6
        subst g6
        simpa using g4
      have hb : b < w.heap.size := by
        cases l with
        | nil => exact absurd rfl hl
        | cons x l =>
          have := hcell 0 x rfl
          rcases Nat.lt_or_ge b w.heap.size with h | h
          · exact h
          · simp [World.cell?, Array.getElem?_eq_none h] at this
      rw [show vs = #[.slice (some ⟨b, off, none⟩) l.length cap, .string sep] by rw [← rowsS_len l]; exact arr_of_list hv]
      have hlen' : (Lib.join (l.map (·.data.toList)) sep.data.toList).length ≤ 140737488355328 := by
        have : (joinS l sep).size = (Lib.join (l.map (·.data.toList)) sep.data.toList).length := by unfold joinS; simp [ByteArray.size]
        omega
      refine (Tryz.strings_Join b off cap l sep w hcell hb hn h1 hlen').mono fun e w' he => ?_
      obtain ⟨rfl, hbl⟩ := he
      exact ⟨_, rfl, by simp only [Rel]; rfl, hbl⟩
theorem joinS_size (l : List ByteArray) (sep : ByteArray) {k m : Nat} (hk : ∀ x ∈ l, x.size ≤ k) (hs : sep.size ≤ m) : (joinS l sep).size ≤ l.length * (k + m) := by
  have e : ∀ b : ByteArray, b.data.toList.length = b.size := fun b => by rw [Array.length_toList]; rfl
  have h1 : (joinS l sep).size = (Lib.join (l.map (·.data.toList)) sep.data.toList).length := by unfold joinS; simp [ByteArray.size]
  rw [h1]
  cases l with
  | nil => simp [Lib.join_nil]
  | cons x l =>
    rw [List.map_cons, Lib.join_cons, List.length_append, e]
    have hx := hk x (by simp)
    have ht : ∀ l : List ByteArray, (∀ x ∈ l, x.size ≤ k) → (Lib.joinTail sep.data.toList (l.map (·.data.toList))).length ≤ l.length * (k + m) := by
      intro l hl
      induction l with
      | nil => simp [Lib.joinTail]
      | cons y l ih =>
        have := ih (fun z hz => hl z (by simp [hz]))
        have hy := hl y (by simp)
        unfold Lib.joinTail at this ⊢
        rw [List.map_cons, List.map_cons, List.flatten_cons, List.length_append, List.length_append, e, e, List.length_cons, Nat.succ_mul]
        omega
    have := ht l (fun z hz => hk z (by simp [hz]))
    rw [List.length_cons, Nat.succ_mul]
    omega
def pieceT (ps : List (ByteArray × Int)) : List ByteArray := ps.flatMap fun p => [p.1, litT p.2]
def spaceS : ByteArray := ⟨#[32]⟩
def rowT (ps : List (ByteArray × Int)) (bound : ByteArray) : ByteArray := joinS (pieceT ps ++ [geS, bound, semiS]) spaceS
theorem pieceT_len (ps : List (ByteArray × Int)) : (pieceT ps).length = 2 * ps.length := by
  unfold pieceT
  induction ps with
  | nil => rfl
  | cons p ps ih => simp at ih ⊢; omega
theorem pieceT_snoc (ps : List (ByteArray × Int)) (p : ByteArray × Int) : pieceT (ps ++ [p]) = pieceT ps ++ [p.1, litT p.2] := by simp [pieceT]
/-- A row that the walks can take. -/
def OkRow (ps : List (ByteArray × Int)) (bound : ByteArray) : Prop := ps.length ≤ 1000000 ∧ (∀ p ∈ ps, okI p.2 ∧ p.1.size ≤ 10000000) ∧ bound.size ≤ 10000000
theorem pieceT_size {ps : List (ByteArray × Int)} {bound : ByteArray} (h : OkRow ps bound) : ∀ x ∈ pieceT ps ++ [geS, bound, semiS], x.size ≤ 10000000 := by
  intro x hx
  rcases List.mem_append.1 hx with hx | hx
  · unfold pieceT at hx
    obtain ⟨p, hp, hx⟩ := List.mem_flatMap.1 hx
    have := h.2.1 p hp
    have hl := litT_size p.2 this.1
    simp at hx
    rcases hx with rfl | rfl
    · exact this.2
    · omega
  · simp at hx
    rcases hx with rfl | rfl | rfl
    · decide
    · exact h.2.2
    · decide
theorem rowText_ok (hG : G10 G) (ps : List (ByteArray × Int)) (bound : ByteArray) (h : OkRow ps bound) (S : St) : Triple P (C G) 90 [.ag [.sl .any 2 (rowsP ps), .str bound]] S fun o S' => o = .ret (.str (rowT ps bound)) ∧ S' = S := by
  have hjs := joinS_size (pieceT ps ++ [geS, bound, semiS]) spaceS (pieceT_size h) (m := 1) (by decide)
  have hpl := pieceT_len ps
  refine triple_of_awp (hT G) hm Tryz.func90 rfl (by decide +kernel) rfl (by decide +kernel) (by show 1 ≤ _; decide +kernel) rfl ?_
  refine awp_seq2 fun K hK hQ => ?_
  conv => whnf
  intro b1 hb1
  conv => whnf
  refine hK _ _ ?_
  clear hK hQ K
  have q1 := St.upd_same S b1 (.obj 51 [.sl .any 2 (rowsP ps), .str bound])
  have hle1 := St.le_upd' (St.le_refl S) hb1 (.obj 51 [.sl .any 2 (rowsP ps), .str bound])
  generalize S.upd b1 (.obj 51 [.sl .any 2 (rowsP ps), .str bound]) = S1 at *
  refine awp_seq2 fun K hK hQ => ?_
  conv => whnf
  refine hK _ _ ?_
  clear hK hQ K
  refine awp_seq2 fun K hK hQ => ?_
  conv => whnf
  refine ⟨_, _, q1, ?_⟩
  conv => whnf
  intro _
  conv => whnf
  refine ⟨⟨Nat × Nat, fun (i, ba) => [(1, .ref b1 0), (3, .sl (.acc ba) 1 (rowsS (pieceT (ps.take i)))), (7, .sl .any 2 (rowsP ps)), (8, .int .i64 (ps.length : Int)), (9, .int .i64 (i : Int))],
    fun (i, ba) S2 => AccOk S1 S2 9 1 ba (pieceT (ps.take i)).length ∧ i ≤ ps.length, fun (i, _) => ps.length - i⟩,
    ⟨(0, 0), ⟨rfl, rfl, ⟨rfl, rfl⟩, congrArg (AV.int .i64) (by rw [rowsP_len]), rfl, trivial⟩, _, St.leW_refl _, AccOk.init _ _ _ _, by omega⟩, ?_⟩
  rintro ⟨i, ba⟩ S2 ⟨h1, h2⟩
  have hl2 : (pieceT (ps.take i)).length = 2 * i := by rw [pieceT_len, List.length_take]; omega
  conv => whnf
  refine split_of (fun hlt => ?_) (fun hlt => ?_)
  · have hlt : i < ps.length := by have := of_decide_eq_true hlt; omega
    have hsn : pieceT (ps.take (i + 1)) = pieceT (ps.take i) ++ [ps[i].1, litT ps[i].2] := by rw [← pieceT_snoc, List.take_add_one]; simp [hlt]
    have hz := h.2.1 _ (List.getElem_mem hlt)
    have hgr : (rowsP ps)[(i : Int).toNat]? = some [.str ps[i].1, .int .i64 ps[i].2] := by simp [rowsP, hlt]
    generalize ps[i].1 = nm at *
    generalize ps[i].2 = z at *
    clear hK hQ
    conv => whnf
    refine ⟨_, ⟨by omega, hgr⟩, ?_⟩
    conv => whnf
    intro b5 hb5
    conv => whnf
    refine ⟨_, _, St.upd_same _ _ _, ?_⟩
    conv => whnf
    rw [St.upd_upd]
    have h1' := h1.other hb5 (.obj 136 [.str nm, .int .i64 z])
    have q5 := St.upd_same S2 b5 (.obj 136 [.str nm, .int .i64 z])
    generalize S2.upd b5 (.obj 136 [.str nm, .int .i64 z]) = S3 at *
    refine ⟨[5], (.free 0 (.free 1 (.free 2 (.free 3 (.free 4 (.free 5 (.one 6 (.one 7 (.free 8 .done) .none) .none))))))), _, by decide +kernel, ?_, fun _ _ h => ⟨_, .inl rfl, h⟩⟩
    conv => whnf
    refine ⟨_, _, q5, ?_⟩
    conv => whnf
    refine ⟨_, _, q5, ?_⟩
    conv => whnf
    refine ⟨.str (litT z), (litText_ok hG z hz.1 _).mono ?_, ?_⟩
    · rintro o S' ⟨rfl, rfl⟩; exact ⟨rfl, rfl⟩
    conv => whnf
    intro bb hbb
    have h1'' := h1'.other hbb (.tip 9 1 2)
    conv => whnf
    refine ⟨⟨fun hl => ?_, ?_⟩, fun S4 c1 c2 b' c3 => ?_⟩
    · have : 0 < (pieceT (ps.take i)).length := by
        cases hx : pieceT (ps.take i) with
        | nil => rw [hx] at hl; exact absurd rfl hl
        | cons _ _ => simp
      rw [rowsS_len]; exact h1''.tip this
    · show ((rowsS (pieceT (ps.take i))).length + 2) * 16 ≤ _
      rw [rowsS_len]; have := h.1; omega
    have h5 := h1''.push (m := (pieceT (ps.take i)).length + 2) (by rw [rowsS_len]) c1 c2 c3 rfl
    rw [rowsS_len]
    have w1 : IntKind.i64.wrap ((i : Int) + 1) = ((i + 1 : Nat) : Int) := wrap_nat (by have := h.1; omega)
    conv => whnf
    refine ⟨(i + 1, b'), ⟨rfl, congrArg (AV.sl (.acc b') 1) (show rowsS (pieceT (ps.take i)) ++ [[AV.str nm], [AV.str (litT z)]] = rowsS (pieceT (ps.take (i + 1))) by rw [hsn]; simp [rowsS]), ⟨rfl, rfl⟩, rfl, congrArg _ w1, trivial⟩, ⟨_, St.leW_refl _, by rw [hsn, show (pieceT (ps.take i) ++ [nm, litT z]).length = (pieceT (ps.take i)).length + 2 by simp]; exact h5, by show i + 1 ≤ _; omega⟩, by show ps.length - (i + 1) < ps.length - i; omega⟩
  · have hlt : i = ps.length := by have := of_decide_eq_false hlt; omega
    subst hlt
    conv => whnf
    refine hK _ _ ?_
    clear hK hQ K
    conv => whnf
    refine ⟨_, _, h1.le _ _ q1, ?_⟩
    conv => whnf
    intro b3 hb3
    have h1'' := h1.other hb3 (.tip 9 1 3)
    conv => whnf
    refine ⟨⟨fun hl => ?_, ?_⟩, fun S4 c1 c2 b' c3 => ?_⟩
    · have : 0 < (pieceT (ps.take ps.length)).length := by
        cases hx : pieceT (ps.take ps.length) with
        | nil => rw [hx] at hl; exact absurd rfl hl
        | cons _ _ => simp
      rw [rowsS_len]; exact h1''.tip this
    · show ((rowsS (pieceT (ps.take ps.length))).length + 3) * 16 ≤ _
      rw [rowsS_len]; have := h.1; omega
    have h5 := h1''.push (m := (pieceT (ps.take ps.length)).length + 3) (by rw [rowsS_len]) c1 c2 c3 rfl
    rw [rowsS_len]
    conv => whnf
    have hjl : (pieceT ps ++ [geS, bound, semiS]).length ≤ 140737488355328 := by rw [List.length_append, hpl]; have := h.1; simp; omega
    have hj := join_ok (G := G) (pieceT ps ++ [geS, bound, semiS]) spaceS hjl (by have := h.1; rw [List.length_append, hpl] at hjs; simp at hjs; omega)
    refine Triple.use (hj _) (by exact ⟨⟨rfl, by rw [List.take_length]; simp [rowsS, geS, semiS]⟩, rfl, trivial⟩) ?_
    rintro o S' ⟨rfl, rfl⟩
    conv => whnf
    exact ⟨_, _, ⟨rfl, rfl⟩, St.le_trans hle1 h5.le, AV.leS_refl _ _ _⟩
end Go.Proofs.YtcpdgnkhkdddhaaGreatDoor.Aw

set_option maxRecDepth 100000
set_option linter.unusedVariables false
set_option linter.unusedSimpArgs false
namespace Go.Proofs.YtcpdgnkhkdddhaaGreatDoor.Aw
open Go Go.RowKit
variable {G : Nat → Option (List AV)}

/-- A step that the walks can take. -/
structure OkStep (v : StepV) : Prop where
  ops : v.ops.length ≤ 1000000 ∧ ∀ o ∈ v.ops, okI o.2.2 ∧ o.2.1.size ≤ 10000000
  row : OkRow v.pieces v.bound
  lits : v.lits.length ≤ 1000000 ∧ ∀ z ∈ v.lits, okI z
  ids : v.ids.length ≤ 1000000 ∧ ∀ x ∈ v.ids, x.size ≤ 10000000
  num : v.num.size ≤ 10000000
  s7 : v.s7.size ≤ 10000000
  s8 : v.s8.size ≤ 10000000
def idT (ids : List ByteArray) : ByteArray := match ids with | [] => ByteArray.empty | x :: _ => (⟨#[32, 58, 32]⟩ : ByteArray) ++ x
def endT (v : StepV) : ByteArray :=
  if v.n6 = 1 then ⟨#[78, 79, 78, 69]⟩ else if v.n6 = 3 then ⟨#[83, 65, 84]⟩ else if v.n6 = 2 then (⟨#[85, 78, 83, 65, 84]⟩ : ByteArray) ++ idT v.ids
  else if v.n6 = 6 then ((⟨#[65, 76, 76, 32]⟩ : ByteArray) ++ v.s8) ++ idT v.ids
  else if v.n6 = 5 then ((((⟨#[66, 79, 85, 78, 68, 83, 32]⟩ : ByteArray) ++ v.s7) ++ idT v.ids) ++ (⟨#[32]⟩ : ByteArray)) ++ v.s8 else ⟨#[]⟩
theorem idT_size {ids : List ByteArray} (h : ∀ x ∈ ids, x.size ≤ 10000000) : (idT ids).size ≤ 10000003 := by
  cases ids with
  | nil => decide
  | cons x l =>
    have := h x (by simp)
    unfold idT
    rw [ba_size_append]; show 3 + _ ≤ _; omega
theorem ends_ok (v : StepV) (h : OkStep v) (S : St) : Triple P (C G) 92 [stepAV v] S fun o S' => o = .ret (.str (endT v)) ∧ S' = S := by
  have hid := idT_size h.ids.2
  have h7 := h.s7
  have h8 := h.s8
  obtain ⟨kind, num, ops, pieces, bound, lits, ids, n6, s7, s8⟩ := v
  dsimp only at hid h7 h8
  unfold endT stepAV
  dsimp only
  refine triple_of_awp (hT G) hm Tryz.func92 rfl (by decide +kernel) rfl (by decide +kernel) (by show 1 ≤ _; decide +kernel) rfl ?_
  refine awp_seq2 fun K hK hQ => ?_
  conv => whnf
  intro b hb
  conv => whnf
  refine hK _ _ ?_
  clear hK hQ K
  have q := St.upd_same S b (.obj 54 [.int .i64 kind, .str num, .sl .any 3 (rowsO ops), .sl .any 2 (rowsP pieces), .str bound, .sl .any 1 (rowsI lits), .sl .any 1 (rowsS ids), .int .i64 n6, .str s7, .str s8])
  have hle := St.le_upd' (St.le_refl S) hb (.obj 54 [.int .i64 kind, .str num, .sl .any 3 (rowsO ops), .sl .any 2 (rowsP pieces), .str bound, .sl .any 1 (rowsI lits), .sl .any 1 (rowsS ids), .int .i64 n6, .str s7, .str s8])
  generalize S.upd b (.obj 54 [.int .i64 kind, .str num, .sl .any 3 (rowsO ops), .sl .any 2 (rowsP pieces), .str bound, .sl .any 1 (rowsI lits), .sl .any 1 (rowsS ids), .int .i64 n6, .str s7, .str s8]) = S1 at *
  refine awp_seq2 fun K hK hQ => ?_
  conv => whnf
  refine hK _ _ ?_
  clear hK hQ K
  refine awp_seq2 fun K hK hQ => ?_
  conv => whnf
  refine ⟨_, _, q, ?_⟩
  conv => whnf
  intro _
  cases ids with
  | nil =>
    conv => whnf
    refine hK _ _ ?_
    clear hK hQ K
    rw [show (⟨#[]⟩ : ByteArray) = idT [] from rfl]
    generalize idT [] = it at *
    refine awp_seq2 fun K hK hQ => ?_
    conv => whnf
    refine ⟨_, _, q, ?_⟩
    conv => whnf
    refine split_of (fun h => ?_) (fun h => ?_)
    · have h1 : n6 = 1 := by simpa using h
      simp only [if_pos h1] at hQ
      clear hK
      conv => whnf
      refine hQ _ _ _ (by simp) ?_
      conv => whnf
      exact ⟨_, _, ⟨rfl, rfl⟩, hle, AV.leS_refl _ _ _⟩
    have h1 : ¬ n6 = 1 := by simpa using h
    simp only [if_neg h1] at hK hQ
    conv => whnf
    refine split_of (fun h => ?_) (fun h => ?_)
    · have h1 : n6 = 3 := by simpa using h
      simp only [if_pos h1] at hQ
      clear hK
      conv => whnf
      refine hQ _ _ _ (by simp) ?_
      conv => whnf
      exact ⟨_, _, ⟨rfl, rfl⟩, hle, AV.leS_refl _ _ _⟩
    have h2 : ¬ n6 = 3 := by simpa using h
    simp only [if_neg h2] at hK hQ
    conv => whnf
    refine split_of (fun h => ?_) (fun h => ?_)
    · have h1 : n6 = 2 := by simpa using h
      simp only [if_pos h1] at hQ
      clear hK
      conv => whnf
      refine ⟨by show 5 + _ ≤ _; omega, ?_⟩
      conv => whnf
      refine hQ _ _ _ (by simp) ?_
      conv => whnf
      exact ⟨_, _, ⟨rfl, rfl⟩, hle, AV.leS_refl _ _ _⟩
    have h3 : ¬ n6 = 2 := by simpa using h
    simp only [if_neg h3] at hK hQ
    conv => whnf
    refine split_of (fun h => ?_) (fun h => ?_)
    · have h1 : n6 = 6 := by simpa using h
      simp only [if_pos h1] at hQ
      clear hK
      conv => whnf
      refine ⟨_, _, q, ?_⟩
      conv => whnf
      refine ⟨by show 4 + _ ≤ _; omega, ?_⟩
      conv => whnf
      refine ⟨by rw [ba_size_append]; show 4 + _ + _ ≤ _; omega, ?_⟩
      conv => whnf
      refine hQ _ _ _ (by simp) ?_
      conv => whnf
      exact ⟨_, _, ⟨rfl, rfl⟩, hle, AV.leS_refl _ _ _⟩
    have h4 : ¬ n6 = 6 := by simpa using h
    simp only [if_neg h4] at hK hQ
    conv => whnf
    refine split_of (fun h => ?_) (fun h => ?_)
    · have h1 : n6 = 5 := by simpa using h
      simp only [if_pos h1] at hQ
      clear hK
      conv => whnf
      refine ⟨_, _, q, ?_⟩
      conv => whnf
      refine ⟨by show 7 + _ ≤ _; omega, ?_⟩
      conv => whnf
      refine ⟨by rw [ba_size_append]; show 7 + _ + _ ≤ _; omega, ?_⟩
      conv => whnf
      refine ⟨by rw [ba_size_append, ba_size_append]; show 7 + _ + _ + 1 ≤ _; omega, ?_⟩
      conv => whnf
      refine ⟨_, _, q, ?_⟩
      conv => whnf
      refine ⟨by rw [ba_size_append, ba_size_append, ba_size_append]; show 7 + _ + _ + 1 + _ ≤ _; omega, ?_⟩
      conv => whnf
      refine hQ _ _ _ (by simp) ?_
      conv => whnf
      exact ⟨_, _, ⟨rfl, rfl⟩, hle, AV.leS_refl _ _ _⟩
    have h5 : ¬ n6 = 5 := by simpa using h
    simp only [if_neg h5] at hK hQ
    conv => whnf
    refine hK _ _ ?_
    clear hK hQ K
    conv => whnf
    exact ⟨_, _, ⟨rfl, rfl⟩, hle, AV.leS_refl _ _ _⟩
  | cons x l =>
    refine split_of (fun hh => ?_) (fun hh => by simp [rowsS] at hh)
    conv => whnf
    refine ⟨_, _, q, ?_⟩
    conv => whnf
    refine ⟨_, ⟨by omega, rfl⟩, ?_⟩
    conv => whnf
    refine ⟨by show 3 + x.size ≤ _; have := h.ids.2 x (by simp); omega, ?_⟩
    conv => whnf
    refine hK _ _ ?_
    clear hK hQ K
    have hit : (⟨#[32, 58, 32]⟩ : ByteArray) ++ x = idT (x :: l) := rfl
    rw [hit]
    generalize idT (x :: l) = it at *
    clear hit
    refine awp_seq2 fun K hK hQ => ?_
    conv => whnf
    refine ⟨_, _, q, ?_⟩
    conv => whnf
    refine split_of (fun h => ?_) (fun h => ?_)
    · have h1 : n6 = 1 := by simpa using h
      simp only [if_pos h1] at hQ
      clear hK
      conv => whnf
      refine hQ _ _ _ (by simp) ?_
      conv => whnf
      exact ⟨_, _, ⟨rfl, rfl⟩, hle, AV.leS_refl _ _ _⟩
    have h1 : ¬ n6 = 1 := by simpa using h
    simp only [if_neg h1] at hK hQ
    conv => whnf
    refine split_of (fun h => ?_) (fun h => ?_)
    · have h1 : n6 = 3 := by simpa using h
      simp only [if_pos h1] at hQ
      clear hK
      conv => whnf
      refine hQ _ _ _ (by simp) ?_
      conv => whnf
      exact ⟨_, _, ⟨rfl, rfl⟩, hle, AV.leS_refl _ _ _⟩
    have h2 : ¬ n6 = 3 := by simpa using h
    simp only [if_neg h2] at hK hQ
    conv => whnf
    refine split_of (fun h => ?_) (fun h => ?_)
    · have h1 : n6 = 2 := by simpa using h
      simp only [if_pos h1] at hQ
      clear hK
      conv => whnf
      refine ⟨by show 5 + _ ≤ _; omega, ?_⟩
      conv => whnf
      refine hQ _ _ _ (by simp) ?_
      conv => whnf
      exact ⟨_, _, ⟨rfl, rfl⟩, hle, AV.leS_refl _ _ _⟩
    have h3 : ¬ n6 = 2 := by simpa using h
    simp only [if_neg h3] at hK hQ
    conv => whnf
    refine split_of (fun h => ?_) (fun h => ?_)
    · have h1 : n6 = 6 := by simpa using h
      simp only [if_pos h1] at hQ
      clear hK
      conv => whnf
      refine ⟨_, _, q, ?_⟩
      conv => whnf
      refine ⟨by show 4 + _ ≤ _; omega, ?_⟩
      conv => whnf
      refine ⟨by rw [ba_size_append]; show 4 + _ + _ ≤ _; omega, ?_⟩
      conv => whnf
      refine hQ _ _ _ (by simp) ?_
      conv => whnf
      exact ⟨_, _, ⟨rfl, rfl⟩, hle, AV.leS_refl _ _ _⟩
    have h4 : ¬ n6 = 6 := by simpa using h
    simp only [if_neg h4] at hK hQ
    conv => whnf
    refine split_of (fun h => ?_) (fun h => ?_)
    · have h1 : n6 = 5 := by simpa using h
      simp only [if_pos h1] at hQ
      clear hK
      conv => whnf
      refine ⟨_, _, q, ?_⟩
      conv => whnf
      refine ⟨by show 7 + _ ≤ _; omega, ?_⟩
      conv => whnf
      refine ⟨by rw [ba_size_append]; show 7 + _ + _ ≤ _; omega, ?_⟩
      conv => whnf
      refine ⟨by rw [ba_size_append, ba_size_append]; show 7 + _ + _ + 1 ≤ _; omega, ?_⟩
      conv => whnf
      refine ⟨_, _, q, ?_⟩
      conv => whnf
      refine ⟨by rw [ba_size_append, ba_size_append, ba_size_append]; show 7 + _ + _ + 1 + _ ≤ _; omega, ?_⟩
      conv => whnf
      refine hQ _ _ _ (by simp) ?_
      conv => whnf
      exact ⟨_, _, ⟨rfl, rfl⟩, hle, AV.leS_refl _ _ _⟩
    have h5 : ¬ n6 = 5 := by simpa using h
    simp only [if_neg h5] at hK hQ
    conv => whnf
    refine hK _ _ ?_
    clear hK hQ K
    conv => whnf
    exact ⟨_, _, ⟨rfl, rfl⟩, hle, AV.leS_refl _ _ _⟩
end Go.Proofs.YtcpdgnkhkdddhaaGreatDoor.Aw

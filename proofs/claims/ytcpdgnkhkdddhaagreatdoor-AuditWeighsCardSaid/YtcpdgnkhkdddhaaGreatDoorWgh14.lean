/-
  Package proof, walked: table, parse.
  Package hallmarkref8: the reader's ends.
  Package hallmarkref8: the reader's step, one theorem for each first word (printed by gen_rb4.py).
-/
import Derived.Test.YtcpdgnkhkdddhaaGreatDoorWgh13
set_option maxRecDepth 100000
set_option linter.unusedVariables false
set_option linter.unusedSimpArgs false
namespace Go.Proofs.YtcpdgnkhkdddhaaGreatDoor.Aw
open Go Go.RowKit
variable {G : Nat → Option (List AV)}

def kHead : ByteArray := ⟨#[112, 115, 101, 117, 100, 111, 45, 66, 111, 111, 108, 101, 97, 110]⟩
def kF : ByteArray := ⟨#[102]⟩
def kPol : ByteArray := ⟨#[112, 111, 108]⟩
def kRup : ByteArray := ⟨#[114, 117, 112]⟩
def kSoli : ByteArray := ⟨#[115, 111, 108, 105]⟩
def kSolx : ByteArray := ⟨#[115, 111, 108, 120]⟩
def kE : ByteArray := ⟨#[101]⟩
def kDel : ByteArray := ⟨#[100, 101, 108]⟩
def kStar : ByteArray := ⟨#[42]⟩
def kOut : ByteArray := ⟨#[111, 117, 116, 112, 117, 116]⟩
def kConc : ByteArray := ⟨#[99, 111, 110, 99, 108, 117, 115, 105, 111, 110]⟩
def kEnd : ByteArray := ⟨#[101, 110, 100]⟩
def fnAV (f : Nat) : AV := .fn (.func f) [] []
def tabE : List (AV × AV) := [
  (.str kHead, fnAV 143), (.str kF, fnAV 144), (.str kPol, fnAV 145), (.str kRup, fnAV 146),
  (.str kSoli, fnAV 147), (.str kSolx, fnAV 148), (.str kE, fnAV 149), (.str kDel, fnAV 150),
  (.str kStar, fnAV 151), (.str kOut, fnAV 152), (.str kConc, fnAV 153), (.str kEnd, fnAV 154)]
theorem table_ok (S : St) : Triple P (C G) 123 [] S fun o S' => ∃ mr, S mr = none ∧ o = .ret (.mp mr) ∧ S' = S.upd mr (.mapo tabE) := by
  refine triple_of_awp (hT G) hm Tryz.func123 rfl (by decide +kernel) rfl (by decide +kernel) (by show 0 ≤ _; decide +kernel) rfl ?_
  conv => whnf
  intro mr hmr
  conv => whnf
  refine ⟨_, St.upd_same _ _ _, ?_⟩
  conv => whnf
  refine ⟨_, St.upd_same _ _ _, ?_⟩
  conv => whnf
  refine ⟨_, St.upd_same _ _ _, ?_⟩
  conv => whnf
  refine ⟨_, St.upd_same _ _ _, ?_⟩
  conv => whnf
  refine ⟨_, St.upd_same _ _ _, ?_⟩
  conv => whnf
  refine ⟨_, St.upd_same _ _ _, ?_⟩
  conv => whnf
  refine ⟨_, St.upd_same _ _ _, ?_⟩
  conv => whnf
  refine ⟨_, St.upd_same _ _ _, ?_⟩
  conv => whnf
  refine ⟨_, St.upd_same _ _ _, ?_⟩
  conv => whnf
  refine ⟨_, St.upd_same _ _ _, ?_⟩
  conv => whnf
  refine ⟨_, St.upd_same _ _ _, ?_⟩
  conv => whnf
  refine ⟨_, St.upd_same _ _ _, ?_⟩
  conv => whnf
  simp only [St.upd_upd]
  refine ⟨_, _, ⟨mr, hmr, rfl, rfl⟩, St.le_refl _, AV.leS_refl _ _ _⟩
def zeroV : StepV := ⟨0, ByteArray.empty, [], [], ByteArray.empty, [], [], 0, ByteArray.empty, ByteArray.empty⟩
def tabG (w : ByteArray) : Option (List ByteArray → StepV → RetG) :=
  if w = kHead then some (fixG 1 headWords) else if w = kF then some countG else if w = kPol then some polG else if w = kRup then some rupG
  else if w = kSoli then some (solG 5) else if w = kSolx then some (solG 11) else if w = kE then some sameG else if w = kDel then some delG
  else if w = kStar then some noteG else if w = kOut then some (fixG 8 outputWords) else if w = kConc then some conclG else if w = kEnd then some (fixG 10 lastWords) else none
def finG (r : RetG) : StepV × Int := (r.2.2, if r.1 = 0 then (if r.2.1 = [] then 0 else 80) else r.1)
def parseW (ws : List ByteArray) : StepV × Int :=
  match ws with
  | [] => ({ zeroV with kind := 7 }, 0)
  | w :: l => match tabG w with
    | some f => finG (f l zeroV)
    | none => (zeroV, 80)
def stepAV (v : StepV) : AV := .ag [.int .i64 v.kind, .str v.num, .sl .any 3 (rowsO v.ops), .sl .any 2 (rowsP v.pieces), .str v.bound, .sl .any 1 (rowsI v.lits), .sl .any 1 (rowsS v.ids), .int .i64 v.n6, .str v.s7, .str v.s8]
def stepZ : List AV := [.int .i64 0, .str ByteArray.empty, .nils, .nils, .str ByteArray.empty, .nils, .nils, .int .i64 0, .str ByteArray.empty, .str ByteArray.empty]
theorem parse_ok (hG : GS G) (s : ByteArray) (hs : s.size ≤ 8999999) (S : St) :
    Triple P (C G) 94 [.str s] S fun o S' => o = .ret (.tu [stepAV (parseW (wordsL s)).1, errAV (parseW (wordsL s)).2]) ∧ S' = S := by
  have hwo : OkW (wordsL s) := ⟨fun w hw => Nat.le_trans (wordsL_size s w hw) (by omega), Nat.le_trans (wordsL_len s) (by omega)⟩
  have hwords := fun S => words_ok (G := G) s (by omega) S
  generalize wordsL s = ws at *
  refine triple_of_awp (hT G) hm Tryz.func94 rfl (by decide +kernel) rfl (by decide +kernel) (by show 1 ≤ _; decide +kernel) rfl ?_
  refine awp_seq2 fun K hK hQ => ?_
  conv => whnf
  intro b2 hb2
  conv => whnf
  refine hK _ _ ?_
  clear hK hQ K
  refine awp_seq2 fun K hK hQ => ?_
  conv => whnf
  refine (hwords _).mono ?_
  rintro o S' ⟨rfl, rfl⟩
  conv => whnf
  intro rb hrb
  conv => whnf
  refine hK _ _ ?_
  clear hK hQ K
  refine awp_seq2 fun K hK hQ => ?_
  conv => whnf
  refine ⟨_, _, St.upd_same _ _ _, ?_⟩
  conv => whnf
  intro _
  have hle : St.le S ((S.upd b2 (.obj 54 stepZ)).upd rb (.obj 208 (.sl .full 1 (rowsS ws) :: stepZ))) := St.le_upd' (St.le_upd' (St.le_refl _) hb2 _) hrb _
  have q2 : ((S.upd b2 (.obj 54 stepZ)).upd rb (.obj 208 (.sl .full 1 (rowsS ws) :: stepZ))) b2 = some (.obj 54 stepZ) := St.up hrb (St.upd_same _ _ _)
  have hw3 : St.leW ((S.upd b2 (.obj 54 stepZ)).upd rb (rdr ws (stepC zeroV ⟨0, 0, 0, 0⟩))) ((S.upd b2 (.obj 54 stepZ)).upd rb (.obj 208 (.sl .full 1 (rowsS ws) :: stepZ))) := by
    have := St.leW_upd (cs' := .sl .any 1 (rowsS ws) :: stepC zeroV ⟨0, 0, 0, 0⟩) (St.upd_same (S.upd b2 (.obj 54 stepZ)) rb (.obj 208 (.sl .full 1 (rowsS ws) :: stepZ))) ⟨⟨rfl, rfl⟩, rfl, rfl, rfl, rfl, rfl, rfl, rfl, rfl, rfl, rfl, trivial⟩
    rwa [St.upd_upd] at this
  have hat : RdrAt (S.upd b2 (.obj 54 stepZ)) ((S.upd b2 (.obj 54 stepZ)).upd rb (rdr ws (stepC zeroV ⟨0, 0, 0, 0⟩))) rb ws zeroV ⟨0, 0, 0, 0⟩ :=
    ⟨St.le_upd' (St.le_refl _) hrb _, hrb, St.upd_same _ _ _, fun h => absurd h (by decide), fun h => absurd h (by decide), fun h => absurd h (by decide), fun h => absurd h (by decide)⟩
  cases ws with
  | nil =>
    conv => whnf
    refine ⟨_, _, q2, ?_⟩
    conv => whnf
    refine hQ _ _ _ (by simp) ?_
    conv => whnf
    refine ⟨_, _, St.upd_same _ _ _, ?_⟩
    conv => whnf
    refine ⟨_, _, ⟨rfl, rfl⟩, ?_, ⟨⟨rfl, rfl, rfl, rfl, rfl, rfl, rfl, rfl, rfl, rfl, rfl⟩, rfl, rfl⟩⟩
    exact St.le_upd (St.le_upd' (St.le_upd' (St.le_refl _) hb2 _) hrb _) hb2 _
  | cons w l =>
    conv => whnf
    refine hK _ _ ?_
    clear hK hQ K
    have htk := Triple.weakS (rtake_ok (G := G) rb (w :: l) _ _ hat.at_) hw3
    have hat2 := hat.words (ws' := l)
    have hw1 := hwo.suffix (List.suffix_cons w l)
    refine awp_seq2 fun K hK hQ => ?_
    conv => whnf
    refine htk.mono ?_
    rintro o S' ⟨rfl, rfl⟩
    clear htk hw3
    conv => whnf
    refine hK _ _ ?_
    clear hK hQ K
    have hn2 : rb ≠ b2 := (St.ne_upd hrb)
    have hS0 : ∀ S', RdrAt (S.upd b2 (.obj 54 stepZ)) S' rb l zeroV ⟨0, 0, 0, 0⟩ → S' b2 = some (.obj 54 stepZ) := fun S' h => h.le _ _ (St.upd_same _ _ _)
    generalize ((S.upd b2 _).upd rb _).upd rb _ = S1 at hat2 ⊢
    have hz2 : ∀ S' : St, St.le (S.upd b2 (.obj 54 stepZ)) S' → ∀ o, St.le S (S'.upd b2 o) := fun S' h o => St.le_upd (St.le_trans (St.le_upd' (St.le_refl _) hb2 _) h) hb2 _
    have q20 := St.upd_same S b2 (.obj 54 stepZ)
    generalize S.upd b2 (.obj 54 stepZ) = S0 at *
    refine awp_seq2 fun K hK hQ => ?_
    conv => whnf
    refine (table_ok _).mono ?_
    rintro o S' ⟨mr, hmr, rfl, rfl⟩
    have hat3 := hat2.more hmr (.mapo tabE)
    conv => whnf
    refine ⟨_, St.upd_same _ _ _, ?_⟩
    generalize S1.upd mr (.mapo tabE) = S2 at *
    have hv : OkV zeroV := ⟨by decide, by decide, by decide, by decide⟩
    conv => whnf
    refine split_of (fun h => ?_) (fun h => ?_)
    · have hh : w = kHead := of_decide_eq_true h
      have hg : tabG w = some (fixG 1 headWords) := by unfold tabG; rw [if_pos hh]
      have hf := head_ok (G := G) ⟨_, hat3⟩
      have hpw : parseW (w :: l) = finG (fixG 1 headWords l zeroV) := by unfold parseW; dsimp only; rw [hg]
      rw [hpw] at hK hQ
      clear hpw hg
      generalize fixG 1 headWords l zeroV = r at *
      obtain ⟨e, l3, v3⟩ := r
      dsimp only at hf
      unfold finG at hK hQ
      dsimp only at hK hQ
      conv => whnf
      refine hK _ _ ?_
      clear hK hQ K
      refine awp_seq2 fun K hK hQ => ?_
      conv => whnf
      refine hK _ _ ?_
      clear hK hQ K
      refine awp_seq2 fun K hK hQ => ?_
      conv => whnf
      refine hf.mono ?_
      rintro o S' ⟨rfl, t3, hr⟩
      have q2 := hr.le _ _ q20
      have hle := hz2 S' hr.le
      have hrs := hr.at_
      by_cases he : e = 0
      · simp only [if_pos he] at hK hQ
        simp only [errAV, if_pos he]
        conv => whnf
        refine hK _ _ ?_
        clear hK hQ K
        refine awp_seq2 fun K hK hQ => ?_
        conv => whnf
        refine (rend_ok rb l3 _ S' hrs).mono ?_
        rintro o T ⟨rfl, rfl⟩
        cases l3 with
        | nil =>
          simp only [if_true] at hK hQ ⊢
          conv => whnf
          refine hK _ _ ?_
          clear hK hQ K
          conv => whnf
          refine ⟨_, _, hrs, ?_⟩
          conv => whnf
          refine ⟨_, _, q2, ?_⟩
          conv => whnf
          refine ⟨_, _, St.upd_same _ _ _, ?_⟩
          conv => whnf
          exact ⟨_, _, ⟨rfl, rfl⟩, hle _, ⟨⟨rfl, rfl, ⟨rfl, rfl⟩, ⟨rfl, rfl⟩, rfl, ⟨rfl, rfl⟩, ⟨rfl, rfl⟩, rfl, rfl, rfl, rfl⟩, rfl, rfl⟩⟩
        | cons x l3 =>
          simp only [reduceCtorEq, if_false] at hK hQ ⊢
          conv => whnf
          refine hK _ _ ?_
          clear hK hQ K
          conv => whnf
          refine ⟨_, _, hrs, ?_⟩
          conv => whnf
          refine ⟨_, _, q2, ?_⟩
          conv => whnf
          refine ⟨_, _, St.upd_same _ _ _, ?_⟩
          conv => whnf
          exact ⟨_, _, ⟨rfl, rfl⟩, hle _, ⟨⟨rfl, rfl, ⟨rfl, rfl⟩, ⟨rfl, rfl⟩, rfl, ⟨rfl, rfl⟩, ⟨rfl, rfl⟩, rfl, rfl, rfl, rfl⟩, AV.leS_refl _ _ _, rfl⟩⟩
      · simp only [if_neg he] at hK hQ
        simp only [errAV, if_neg he] at hK hQ ⊢
        conv => whnf
        refine hK _ _ ?_
        clear hK hQ K
        refine awp_seq2 fun K hK hQ => ?_
        conv => whnf
        refine hK _ _ ?_
        clear hK hQ K
        conv => whnf
        refine ⟨_, _, hrs, ?_⟩
        conv => whnf
        refine ⟨_, _, q2, ?_⟩
        conv => whnf
        refine ⟨_, _, St.upd_same _ _ _, ?_⟩
        conv => whnf
        exact ⟨_, _, ⟨rfl, rfl⟩, hle _, ⟨⟨rfl, rfl, ⟨rfl, rfl⟩, ⟨rfl, rfl⟩, rfl, ⟨rfl, rfl⟩, ⟨rfl, rfl⟩, rfl, rfl, rfl, rfl⟩, AV.leS_refl _ _ _, rfl⟩⟩
    have n0 : ¬ w = kHead := of_decide_eq_false h
    conv => whnf
    refine split_of (fun h => ?_) (fun h => ?_)
    · have hh : w = kF := of_decide_eq_true h
      have hg : tabG w = some (countG) := by unfold tabG; rw [if_neg n0, if_pos hh]
      have hf := count_ok (G := G) ⟨_, hat3⟩ hw1
      have hpw : parseW (w :: l) = finG (countG l zeroV) := by unfold parseW; dsimp only; rw [hg]
      rw [hpw] at hK hQ
      clear hpw hg
      generalize countG l zeroV = r at *
      obtain ⟨e, l3, v3⟩ := r
      dsimp only at hf
      unfold finG at hK hQ
      dsimp only at hK hQ
      conv => whnf
      refine hK _ _ ?_
      clear hK hQ K
      refine awp_seq2 fun K hK hQ => ?_
      conv => whnf
      refine hK _ _ ?_
      clear hK hQ K
      refine awp_seq2 fun K hK hQ => ?_
      conv => whnf
      refine hf.mono ?_
      rintro o S' ⟨rfl, t3, hr⟩
      have q2 := hr.le _ _ q20
      have hle := hz2 S' hr.le
      have hrs := hr.at_
      by_cases he : e = 0
      · simp only [if_pos he] at hK hQ
        simp only [errAV, if_pos he]
        conv => whnf
        refine hK _ _ ?_
        clear hK hQ K
        refine awp_seq2 fun K hK hQ => ?_
        conv => whnf
        refine (rend_ok rb l3 _ S' hrs).mono ?_
        rintro o T ⟨rfl, rfl⟩
        cases l3 with
        | nil =>
          simp only [if_true] at hK hQ ⊢
          conv => whnf
          refine hK _ _ ?_
          clear hK hQ K
          conv => whnf
          refine ⟨_, _, hrs, ?_⟩
          conv => whnf
          refine ⟨_, _, q2, ?_⟩
          conv => whnf
          refine ⟨_, _, St.upd_same _ _ _, ?_⟩
          conv => whnf
          exact ⟨_, _, ⟨rfl, rfl⟩, hle _, ⟨⟨rfl, rfl, ⟨rfl, rfl⟩, ⟨rfl, rfl⟩, rfl, ⟨rfl, rfl⟩, ⟨rfl, rfl⟩, rfl, rfl, rfl, rfl⟩, rfl, rfl⟩⟩
        | cons x l3 =>
          simp only [reduceCtorEq, if_false] at hK hQ ⊢
          conv => whnf
          refine hK _ _ ?_
          clear hK hQ K
          conv => whnf
          refine ⟨_, _, hrs, ?_⟩
          conv => whnf
          refine ⟨_, _, q2, ?_⟩
          conv => whnf
          refine ⟨_, _, St.upd_same _ _ _, ?_⟩
          conv => whnf
          exact ⟨_, _, ⟨rfl, rfl⟩, hle _, ⟨⟨rfl, rfl, ⟨rfl, rfl⟩, ⟨rfl, rfl⟩, rfl, ⟨rfl, rfl⟩, ⟨rfl, rfl⟩, rfl, rfl, rfl, rfl⟩, AV.leS_refl _ _ _, rfl⟩⟩
      · simp only [if_neg he] at hK hQ
        simp only [errAV, if_neg he] at hK hQ ⊢
        conv => whnf
        refine hK _ _ ?_
        clear hK hQ K
        refine awp_seq2 fun K hK hQ => ?_
        conv => whnf
        refine hK _ _ ?_
        clear hK hQ K
        conv => whnf
        refine ⟨_, _, hrs, ?_⟩
        conv => whnf
        refine ⟨_, _, q2, ?_⟩
        conv => whnf
        refine ⟨_, _, St.upd_same _ _ _, ?_⟩
        conv => whnf
        exact ⟨_, _, ⟨rfl, rfl⟩, hle _, ⟨⟨rfl, rfl, ⟨rfl, rfl⟩, ⟨rfl, rfl⟩, rfl, ⟨rfl, rfl⟩, ⟨rfl, rfl⟩, rfl, rfl, rfl, rfl⟩, AV.leS_refl _ _ _, rfl⟩⟩
    have n1 : ¬ w = kF := of_decide_eq_false h
    conv => whnf
    refine split_of (fun h => ?_) (fun h => ?_)
    · have hh : w = kPol := of_decide_eq_true h
      have hg : tabG w = some (polG) := by unfold tabG; rw [if_neg n0, if_neg n1, if_pos hh]
      have hf := pol_ok (G := G) hG ⟨_, hat3⟩ hw1 hv
      have hpw : parseW (w :: l) = finG (polG l zeroV) := by unfold parseW; dsimp only; rw [hg]
      rw [hpw] at hK hQ
      clear hpw hg
      generalize polG l zeroV = r at *
      obtain ⟨e, l3, v3⟩ := r
      dsimp only at hf
      unfold finG at hK hQ
      dsimp only at hK hQ
      conv => whnf
      refine hK _ _ ?_
      clear hK hQ K
      refine awp_seq2 fun K hK hQ => ?_
      conv => whnf
      refine hK _ _ ?_
      clear hK hQ K
      refine awp_seq2 fun K hK hQ => ?_
      conv => whnf
      refine hf.mono ?_
      rintro o S' ⟨rfl, t3, hr⟩
      have q2 := hr.le _ _ q20
      have hle := hz2 S' hr.le
      have hrs := hr.at_
      by_cases he : e = 0
      · simp only [if_pos he] at hK hQ
        simp only [errAV, if_pos he]
        conv => whnf
        refine hK _ _ ?_
        clear hK hQ K
        refine awp_seq2 fun K hK hQ => ?_
        conv => whnf
        refine (rend_ok rb l3 _ S' hrs).mono ?_
        rintro o T ⟨rfl, rfl⟩
        cases l3 with
        | nil =>
          simp only [if_true] at hK hQ ⊢
          conv => whnf
          refine hK _ _ ?_
          clear hK hQ K
          conv => whnf
          refine ⟨_, _, hrs, ?_⟩
          conv => whnf
          refine ⟨_, _, q2, ?_⟩
          conv => whnf
          refine ⟨_, _, St.upd_same _ _ _, ?_⟩
          conv => whnf
          exact ⟨_, _, ⟨rfl, rfl⟩, hle _, ⟨⟨rfl, rfl, ⟨rfl, rfl⟩, ⟨rfl, rfl⟩, rfl, ⟨rfl, rfl⟩, ⟨rfl, rfl⟩, rfl, rfl, rfl, rfl⟩, rfl, rfl⟩⟩
        | cons x l3 =>
          simp only [reduceCtorEq, if_false] at hK hQ ⊢
          conv => whnf
          refine hK _ _ ?_
          clear hK hQ K
          conv => whnf
          refine ⟨_, _, hrs, ?_⟩
          conv => whnf
          refine ⟨_, _, q2, ?_⟩
          conv => whnf
          refine ⟨_, _, St.upd_same _ _ _, ?_⟩
          conv => whnf
          exact ⟨_, _, ⟨rfl, rfl⟩, hle _, ⟨⟨rfl, rfl, ⟨rfl, rfl⟩, ⟨rfl, rfl⟩, rfl, ⟨rfl, rfl⟩, ⟨rfl, rfl⟩, rfl, rfl, rfl, rfl⟩, AV.leS_refl _ _ _, rfl⟩⟩
      · simp only [if_neg he] at hK hQ
        simp only [errAV, if_neg he] at hK hQ ⊢
        conv => whnf
        refine hK _ _ ?_
        clear hK hQ K
        refine awp_seq2 fun K hK hQ => ?_
        conv => whnf
        refine hK _ _ ?_
        clear hK hQ K
        conv => whnf
        refine ⟨_, _, hrs, ?_⟩
        conv => whnf
        refine ⟨_, _, q2, ?_⟩
        conv => whnf
        refine ⟨_, _, St.upd_same _ _ _, ?_⟩
        conv => whnf
        exact ⟨_, _, ⟨rfl, rfl⟩, hle _, ⟨⟨rfl, rfl, ⟨rfl, rfl⟩, ⟨rfl, rfl⟩, rfl, ⟨rfl, rfl⟩, ⟨rfl, rfl⟩, rfl, rfl, rfl, rfl⟩, AV.leS_refl _ _ _, rfl⟩⟩
    have n2 : ¬ w = kPol := of_decide_eq_false h
    conv => whnf
    refine split_of (fun h => ?_) (fun h => ?_)
    · have hh : w = kRup := of_decide_eq_true h
      have hg : tabG w = some (rupG) := by unfold tabG; rw [if_neg n0, if_neg n1, if_neg n2, if_pos hh]
      have hf := rup_ok (G := G) hG ⟨_, hat3⟩ hw1 hv
      have hpw : parseW (w :: l) = finG (rupG l zeroV) := by unfold parseW; dsimp only; rw [hg]
      rw [hpw] at hK hQ
      clear hpw hg
      generalize rupG l zeroV = r at *
      obtain ⟨e, l3, v3⟩ := r
      dsimp only at hf
      unfold finG at hK hQ
      dsimp only at hK hQ
      conv => whnf
      refine hK _ _ ?_
      clear hK hQ K
      refine awp_seq2 fun K hK hQ => ?_
      conv => whnf
      refine hK _ _ ?_
      clear hK hQ K
      refine awp_seq2 fun K hK hQ => ?_
      conv => whnf
      refine hf.mono ?_
      rintro o S' ⟨rfl, t3, hr⟩
      have q2 := hr.le _ _ q20
      have hle := hz2 S' hr.le
      have hrs := hr.at_
      by_cases he : e = 0
      · simp only [if_pos he] at hK hQ
        simp only [errAV, if_pos he]
        conv => whnf
        refine hK _ _ ?_
        clear hK hQ K
        refine awp_seq2 fun K hK hQ => ?_
        conv => whnf
        refine (rend_ok rb l3 _ S' hrs).mono ?_
        rintro o T ⟨rfl, rfl⟩
        cases l3 with
        | nil =>
          simp only [if_true] at hK hQ ⊢
          conv => whnf
          refine hK _ _ ?_
          clear hK hQ K
          conv => whnf
          refine ⟨_, _, hrs, ?_⟩
          conv => whnf
          refine ⟨_, _, q2, ?_⟩
          conv => whnf
          refine ⟨_, _, St.upd_same _ _ _, ?_⟩
          conv => whnf
          exact ⟨_, _, ⟨rfl, rfl⟩, hle _, ⟨⟨rfl, rfl, ⟨rfl, rfl⟩, ⟨rfl, rfl⟩, rfl, ⟨rfl, rfl⟩, ⟨rfl, rfl⟩, rfl, rfl, rfl, rfl⟩, rfl, rfl⟩⟩
        | cons x l3 =>
          simp only [reduceCtorEq, if_false] at hK hQ ⊢
          conv => whnf
          refine hK _ _ ?_
          clear hK hQ K
          conv => whnf
          refine ⟨_, _, hrs, ?_⟩
          conv => whnf
          refine ⟨_, _, q2, ?_⟩
          conv => whnf
          refine ⟨_, _, St.upd_same _ _ _, ?_⟩
          conv => whnf
          exact ⟨_, _, ⟨rfl, rfl⟩, hle _, ⟨⟨rfl, rfl, ⟨rfl, rfl⟩, ⟨rfl, rfl⟩, rfl, ⟨rfl, rfl⟩, ⟨rfl, rfl⟩, rfl, rfl, rfl, rfl⟩, AV.leS_refl _ _ _, rfl⟩⟩
      · simp only [if_neg he] at hK hQ
        simp only [errAV, if_neg he] at hK hQ ⊢
        conv => whnf
        refine hK _ _ ?_
        clear hK hQ K
        refine awp_seq2 fun K hK hQ => ?_
        conv => whnf
        refine hK _ _ ?_
        clear hK hQ K
        conv => whnf
        refine ⟨_, _, hrs, ?_⟩
        conv => whnf
        refine ⟨_, _, q2, ?_⟩
        conv => whnf
        refine ⟨_, _, St.upd_same _ _ _, ?_⟩
        conv => whnf
        exact ⟨_, _, ⟨rfl, rfl⟩, hle _, ⟨⟨rfl, rfl, ⟨rfl, rfl⟩, ⟨rfl, rfl⟩, rfl, ⟨rfl, rfl⟩, ⟨rfl, rfl⟩, rfl, rfl, rfl, rfl⟩, AV.leS_refl _ _ _, rfl⟩⟩
    have n3 : ¬ w = kRup := of_decide_eq_false h
    conv => whnf
    refine split_of (fun h => ?_) (fun h => ?_)
    · have hh : w = kSoli := of_decide_eq_true h
      have hg : tabG w = some (solG 5) := by unfold tabG; rw [if_neg n0, if_neg n1, if_neg n2, if_neg n3, if_pos hh]
      have hf := soli_ok (G := G) hG ⟨_, hat3⟩ hw1 hv
      have hpw : parseW (w :: l) = finG (solG 5 l zeroV) := by unfold parseW; dsimp only; rw [hg]
      rw [hpw] at hK hQ
      clear hpw hg
      generalize solG 5 l zeroV = r at *
      obtain ⟨e, l3, v3⟩ := r
      dsimp only at hf
      unfold finG at hK hQ
      dsimp only at hK hQ
      conv => whnf
      refine hK _ _ ?_
      clear hK hQ K
      refine awp_seq2 fun K hK hQ => ?_
      conv => whnf
      refine hK _ _ ?_
      clear hK hQ K
      refine awp_seq2 fun K hK hQ => ?_
      conv => whnf
      refine hf.mono ?_
      rintro o S' ⟨rfl, t3, hr⟩
      have q2 := hr.le _ _ q20
      have hle := hz2 S' hr.le
      have hrs := hr.at_
      by_cases he : e = 0
      · simp only [if_pos he] at hK hQ
        simp only [errAV, if_pos he]
        conv => whnf
        refine hK _ _ ?_
        clear hK hQ K
        refine awp_seq2 fun K hK hQ => ?_
        conv => whnf
        refine (rend_ok rb l3 _ S' hrs).mono ?_
        rintro o T ⟨rfl, rfl⟩
        cases l3 with
        | nil =>
          simp only [if_true] at hK hQ ⊢
          conv => whnf
          refine hK _ _ ?_
          clear hK hQ K
          conv => whnf
          refine ⟨_, _, hrs, ?_⟩
          conv => whnf
          refine ⟨_, _, q2, ?_⟩
          conv => whnf
          refine ⟨_, _, St.upd_same _ _ _, ?_⟩
          conv => whnf
          exact ⟨_, _, ⟨rfl, rfl⟩, hle _, ⟨⟨rfl, rfl, ⟨rfl, rfl⟩, ⟨rfl, rfl⟩, rfl, ⟨rfl, rfl⟩, ⟨rfl, rfl⟩, rfl, rfl, rfl, rfl⟩, rfl, rfl⟩⟩
        | cons x l3 =>
          simp only [reduceCtorEq, if_false] at hK hQ ⊢
          conv => whnf
          refine hK _ _ ?_
          clear hK hQ K
          conv => whnf
          refine ⟨_, _, hrs, ?_⟩
          conv => whnf
          refine ⟨_, _, q2, ?_⟩
          conv => whnf
          refine ⟨_, _, St.upd_same _ _ _, ?_⟩
          conv => whnf
          exact ⟨_, _, ⟨rfl, rfl⟩, hle _, ⟨⟨rfl, rfl, ⟨rfl, rfl⟩, ⟨rfl, rfl⟩, rfl, ⟨rfl, rfl⟩, ⟨rfl, rfl⟩, rfl, rfl, rfl, rfl⟩, AV.leS_refl _ _ _, rfl⟩⟩
      · simp only [if_neg he] at hK hQ
        simp only [errAV, if_neg he] at hK hQ ⊢
        conv => whnf
        refine hK _ _ ?_
        clear hK hQ K
        refine awp_seq2 fun K hK hQ => ?_
        conv => whnf
        refine hK _ _ ?_
        clear hK hQ K
        conv => whnf
        refine ⟨_, _, hrs, ?_⟩
        conv => whnf
        refine ⟨_, _, q2, ?_⟩
        conv => whnf
        refine ⟨_, _, St.upd_same _ _ _, ?_⟩
        conv => whnf
        exact ⟨_, _, ⟨rfl, rfl⟩, hle _, ⟨⟨rfl, rfl, ⟨rfl, rfl⟩, ⟨rfl, rfl⟩, rfl, ⟨rfl, rfl⟩, ⟨rfl, rfl⟩, rfl, rfl, rfl, rfl⟩, AV.leS_refl _ _ _, rfl⟩⟩
    have n4 : ¬ w = kSoli := of_decide_eq_false h
    conv => whnf
    refine split_of (fun h => ?_) (fun h => ?_)
    · have hh : w = kSolx := of_decide_eq_true h
      have hg : tabG w = some (solG 11) := by unfold tabG; rw [if_neg n0, if_neg n1, if_neg n2, if_neg n3, if_neg n4, if_pos hh]
      have hf := solx_ok (G := G) hG ⟨_, hat3⟩ hw1 hv
      have hpw : parseW (w :: l) = finG (solG 11 l zeroV) := by unfold parseW; dsimp only; rw [hg]
      rw [hpw] at hK hQ
      clear hpw hg
      generalize solG 11 l zeroV = r at *
      obtain ⟨e, l3, v3⟩ := r
      dsimp only at hf
      unfold finG at hK hQ
      dsimp only at hK hQ
      conv => whnf
      refine hK _ _ ?_
      clear hK hQ K
      refine awp_seq2 fun K hK hQ => ?_
      conv => whnf
      refine hK _ _ ?_
      clear hK hQ K
      refine awp_seq2 fun K hK hQ => ?_
      conv => whnf
      refine hf.mono ?_
      rintro o S' ⟨rfl, t3, hr⟩
      have q2 := hr.le _ _ q20
      have hle := hz2 S' hr.le
      have hrs := hr.at_
      by_cases he : e = 0
      · simp only [if_pos he] at hK hQ
        simp only [errAV, if_pos he]
        conv => whnf
        refine hK _ _ ?_
        clear hK hQ K
        refine awp_seq2 fun K hK hQ => ?_
        conv => whnf
        refine (rend_ok rb l3 _ S' hrs).mono ?_
        rintro o T ⟨rfl, rfl⟩
        cases l3 with
        | nil =>
          simp only [if_true] at hK hQ ⊢
          conv => whnf
          refine hK _ _ ?_
          clear hK hQ K
          conv => whnf
          refine ⟨_, _, hrs, ?_⟩
          conv => whnf
          refine ⟨_, _, q2, ?_⟩
          conv => whnf
          refine ⟨_, _, St.upd_same _ _ _, ?_⟩
          conv => whnf
          exact ⟨_, _, ⟨rfl, rfl⟩, hle _, ⟨⟨rfl, rfl, ⟨rfl, rfl⟩, ⟨rfl, rfl⟩, rfl, ⟨rfl, rfl⟩, ⟨rfl, rfl⟩, rfl, rfl, rfl, rfl⟩, rfl, rfl⟩⟩
        | cons x l3 =>
          simp only [reduceCtorEq, if_false] at hK hQ ⊢
          conv => whnf
          refine hK _ _ ?_
          clear hK hQ K
          conv => whnf
          refine ⟨_, _, hrs, ?_⟩
          conv => whnf
          refine ⟨_, _, q2, ?_⟩
          conv => whnf
          refine ⟨_, _, St.upd_same _ _ _, ?_⟩
          conv => whnf
          exact ⟨_, _, ⟨rfl, rfl⟩, hle _, ⟨⟨rfl, rfl, ⟨rfl, rfl⟩, ⟨rfl, rfl⟩, rfl, ⟨rfl, rfl⟩, ⟨rfl, rfl⟩, rfl, rfl, rfl, rfl⟩, AV.leS_refl _ _ _, rfl⟩⟩
      · simp only [if_neg he] at hK hQ
        simp only [errAV, if_neg he] at hK hQ ⊢
        conv => whnf
        refine hK _ _ ?_
        clear hK hQ K
        refine awp_seq2 fun K hK hQ => ?_
        conv => whnf
        refine hK _ _ ?_
        clear hK hQ K
        conv => whnf
        refine ⟨_, _, hrs, ?_⟩
        conv => whnf
        refine ⟨_, _, q2, ?_⟩
        conv => whnf
        refine ⟨_, _, St.upd_same _ _ _, ?_⟩
        conv => whnf
        exact ⟨_, _, ⟨rfl, rfl⟩, hle _, ⟨⟨rfl, rfl, ⟨rfl, rfl⟩, ⟨rfl, rfl⟩, rfl, ⟨rfl, rfl⟩, ⟨rfl, rfl⟩, rfl, rfl, rfl, rfl⟩, AV.leS_refl _ _ _, rfl⟩⟩
    have n5 : ¬ w = kSolx := of_decide_eq_false h
    conv => whnf
    refine split_of (fun h => ?_) (fun h => ?_)
    · have hh : w = kE := of_decide_eq_true h
      have hg : tabG w = some (sameG) := by unfold tabG; rw [if_neg n0, if_neg n1, if_neg n2, if_neg n3, if_neg n4, if_neg n5, if_pos hh]
      have hf := same_ok (G := G) hG ⟨_, hat3⟩ hw1 hv
      have hpw : parseW (w :: l) = finG (sameG l zeroV) := by unfold parseW; dsimp only; rw [hg]
      rw [hpw] at hK hQ
      clear hpw hg
      generalize sameG l zeroV = r at *
      obtain ⟨e, l3, v3⟩ := r
      dsimp only at hf
      unfold finG at hK hQ
      dsimp only at hK hQ
      conv => whnf
      refine hK _ _ ?_
      clear hK hQ K
      refine awp_seq2 fun K hK hQ => ?_
      conv => whnf
      refine hK _ _ ?_
      clear hK hQ K
      refine awp_seq2 fun K hK hQ => ?_
      conv => whnf
      refine hf.mono ?_
      rintro o S' ⟨rfl, t3, hr⟩
      have q2 := hr.le _ _ q20
      have hle := hz2 S' hr.le
      have hrs := hr.at_
      by_cases he : e = 0
      · simp only [if_pos he] at hK hQ
        simp only [errAV, if_pos he]
        conv => whnf
        refine hK _ _ ?_
        clear hK hQ K
        refine awp_seq2 fun K hK hQ => ?_
        conv => whnf
        refine (rend_ok rb l3 _ S' hrs).mono ?_
        rintro o T ⟨rfl, rfl⟩
        cases l3 with
        | nil =>
          simp only [if_true] at hK hQ ⊢
          conv => whnf
          refine hK _ _ ?_
          clear hK hQ K
          conv => whnf
          refine ⟨_, _, hrs, ?_⟩
          conv => whnf
          refine ⟨_, _, q2, ?_⟩
          conv => whnf
          refine ⟨_, _, St.upd_same _ _ _, ?_⟩
          conv => whnf
          exact ⟨_, _, ⟨rfl, rfl⟩, hle _, ⟨⟨rfl, rfl, ⟨rfl, rfl⟩, ⟨rfl, rfl⟩, rfl, ⟨rfl, rfl⟩, ⟨rfl, rfl⟩, rfl, rfl, rfl, rfl⟩, rfl, rfl⟩⟩
        | cons x l3 =>
          simp only [reduceCtorEq, if_false] at hK hQ ⊢
          conv => whnf
          refine hK _ _ ?_
          clear hK hQ K
          conv => whnf
          refine ⟨_, _, hrs, ?_⟩
          conv => whnf
          refine ⟨_, _, q2, ?_⟩
          conv => whnf
          refine ⟨_, _, St.upd_same _ _ _, ?_⟩
          conv => whnf
          exact ⟨_, _, ⟨rfl, rfl⟩, hle _, ⟨⟨rfl, rfl, ⟨rfl, rfl⟩, ⟨rfl, rfl⟩, rfl, ⟨rfl, rfl⟩, ⟨rfl, rfl⟩, rfl, rfl, rfl, rfl⟩, AV.leS_refl _ _ _, rfl⟩⟩
      · simp only [if_neg he] at hK hQ
        simp only [errAV, if_neg he] at hK hQ ⊢
        conv => whnf
        refine hK _ _ ?_
        clear hK hQ K
        refine awp_seq2 fun K hK hQ => ?_
        conv => whnf
        refine hK _ _ ?_
        clear hK hQ K
        conv => whnf
        refine ⟨_, _, hrs, ?_⟩
        conv => whnf
        refine ⟨_, _, q2, ?_⟩
        conv => whnf
        refine ⟨_, _, St.upd_same _ _ _, ?_⟩
        conv => whnf
        exact ⟨_, _, ⟨rfl, rfl⟩, hle _, ⟨⟨rfl, rfl, ⟨rfl, rfl⟩, ⟨rfl, rfl⟩, rfl, ⟨rfl, rfl⟩, ⟨rfl, rfl⟩, rfl, rfl, rfl, rfl⟩, AV.leS_refl _ _ _, rfl⟩⟩
    have n6 : ¬ w = kE := of_decide_eq_false h
    conv => whnf
    refine split_of (fun h => ?_) (fun h => ?_)
    · have hh : w = kDel := of_decide_eq_true h
      have hg : tabG w = some (delG) := by unfold tabG; rw [if_neg n0, if_neg n1, if_neg n2, if_neg n3, if_neg n4, if_neg n5, if_neg n6, if_pos hh]
      have hf := del_ok (G := G) ⟨_, hat3⟩ hw1 hv
      have hpw : parseW (w :: l) = finG (delG l zeroV) := by unfold parseW; dsimp only; rw [hg]
      rw [hpw] at hK hQ
      clear hpw hg
      generalize delG l zeroV = r at *
      obtain ⟨e, l3, v3⟩ := r
      dsimp only at hf
      unfold finG at hK hQ
      dsimp only at hK hQ
      conv => whnf
      refine hK _ _ ?_
      clear hK hQ K
      refine awp_seq2 fun K hK hQ => ?_
      conv => whnf
      refine hK _ _ ?_
      clear hK hQ K
      refine awp_seq2 fun K hK hQ => ?_
      conv => whnf
      refine hf.mono ?_
      rintro o S' ⟨rfl, t3, hr⟩
      have q2 := hr.le _ _ q20
      have hle := hz2 S' hr.le
      have hrs := hr.at_
      by_cases he : e = 0
      · simp only [if_pos he] at hK hQ
        simp only [errAV, if_pos he]
        conv => whnf
        refine hK _ _ ?_
        clear hK hQ K
        refine awp_seq2 fun K hK hQ => ?_
        conv => whnf
        refine (rend_ok rb l3 _ S' hrs).mono ?_
        rintro o T ⟨rfl, rfl⟩
        cases l3 with
        | nil =>
          simp only [if_true] at hK hQ ⊢
          conv => whnf
          refine hK _ _ ?_
          clear hK hQ K
          conv => whnf
          refine ⟨_, _, hrs, ?_⟩
          conv => whnf
          refine ⟨_, _, q2, ?_⟩
          conv => whnf
          refine ⟨_, _, St.upd_same _ _ _, ?_⟩
          conv => whnf
          exact ⟨_, _, ⟨rfl, rfl⟩, hle _, ⟨⟨rfl, rfl, ⟨rfl, rfl⟩, ⟨rfl, rfl⟩, rfl, ⟨rfl, rfl⟩, ⟨rfl, rfl⟩, rfl, rfl, rfl, rfl⟩, rfl, rfl⟩⟩
        | cons x l3 =>
          simp only [reduceCtorEq, if_false] at hK hQ ⊢
          conv => whnf
          refine hK _ _ ?_
          clear hK hQ K
          conv => whnf
          refine ⟨_, _, hrs, ?_⟩
          conv => whnf
          refine ⟨_, _, q2, ?_⟩
          conv => whnf
          refine ⟨_, _, St.upd_same _ _ _, ?_⟩
          conv => whnf
          exact ⟨_, _, ⟨rfl, rfl⟩, hle _, ⟨⟨rfl, rfl, ⟨rfl, rfl⟩, ⟨rfl, rfl⟩, rfl, ⟨rfl, rfl⟩, ⟨rfl, rfl⟩, rfl, rfl, rfl, rfl⟩, AV.leS_refl _ _ _, rfl⟩⟩
      · simp only [if_neg he] at hK hQ
        simp only [errAV, if_neg he] at hK hQ ⊢
        conv => whnf
        refine hK _ _ ?_
        clear hK hQ K
        refine awp_seq2 fun K hK hQ => ?_
        conv => whnf
        refine hK _ _ ?_
        clear hK hQ K
        conv => whnf
        refine ⟨_, _, hrs, ?_⟩
        conv => whnf
        refine ⟨_, _, q2, ?_⟩
        conv => whnf
        refine ⟨_, _, St.upd_same _ _ _, ?_⟩
        conv => whnf
        exact ⟨_, _, ⟨rfl, rfl⟩, hle _, ⟨⟨rfl, rfl, ⟨rfl, rfl⟩, ⟨rfl, rfl⟩, rfl, ⟨rfl, rfl⟩, ⟨rfl, rfl⟩, rfl, rfl, rfl, rfl⟩, AV.leS_refl _ _ _, rfl⟩⟩
    have n7 : ¬ w = kDel := of_decide_eq_false h
    conv => whnf
    refine split_of (fun h => ?_) (fun h => ?_)
    · have hh : w = kStar := of_decide_eq_true h
      have hg : tabG w = some (noteG) := by unfold tabG; rw [if_neg n0, if_neg n1, if_neg n2, if_neg n3, if_neg n4, if_neg n5, if_neg n6, if_neg n7, if_pos hh]
      have hf := note_ok (G := G) ⟨_, hat3⟩
      have hpw : parseW (w :: l) = finG (noteG l zeroV) := by unfold parseW; dsimp only; rw [hg]
      rw [hpw] at hK hQ
      clear hpw hg
      generalize noteG l zeroV = r at *
      obtain ⟨e, l3, v3⟩ := r
      dsimp only at hf
      unfold finG at hK hQ
      dsimp only at hK hQ
      conv => whnf
      refine hK _ _ ?_
      clear hK hQ K
      refine awp_seq2 fun K hK hQ => ?_
      conv => whnf
      refine hK _ _ ?_
      clear hK hQ K
      refine awp_seq2 fun K hK hQ => ?_
      conv => whnf
      refine hf.mono ?_
      rintro o S' ⟨rfl, t3, hr⟩
      have q2 := hr.le _ _ q20
      have hle := hz2 S' hr.le
      have hrs := hr.at_
      by_cases he : e = 0
      · simp only [if_pos he] at hK hQ
        simp only [errAV, if_pos he]
        conv => whnf
        refine hK _ _ ?_
        clear hK hQ K
        refine awp_seq2 fun K hK hQ => ?_
        conv => whnf
        refine (rend_ok rb l3 _ S' hrs).mono ?_
        rintro o T ⟨rfl, rfl⟩
        cases l3 with
        | nil =>
          simp only [if_true] at hK hQ ⊢
          conv => whnf
          refine hK _ _ ?_
          clear hK hQ K
          conv => whnf
          refine ⟨_, _, hrs, ?_⟩
          conv => whnf
          refine ⟨_, _, q2, ?_⟩
          conv => whnf
          refine ⟨_, _, St.upd_same _ _ _, ?_⟩
          conv => whnf
          exact ⟨_, _, ⟨rfl, rfl⟩, hle _, ⟨⟨rfl, rfl, ⟨rfl, rfl⟩, ⟨rfl, rfl⟩, rfl, ⟨rfl, rfl⟩, ⟨rfl, rfl⟩, rfl, rfl, rfl, rfl⟩, rfl, rfl⟩⟩
        | cons x l3 =>
          simp only [reduceCtorEq, if_false] at hK hQ ⊢
          conv => whnf
          refine hK _ _ ?_
          clear hK hQ K
          conv => whnf
          refine ⟨_, _, hrs, ?_⟩
          conv => whnf
          refine ⟨_, _, q2, ?_⟩
          conv => whnf
          refine ⟨_, _, St.upd_same _ _ _, ?_⟩
          conv => whnf
          exact ⟨_, _, ⟨rfl, rfl⟩, hle _, ⟨⟨rfl, rfl, ⟨rfl, rfl⟩, ⟨rfl, rfl⟩, rfl, ⟨rfl, rfl⟩, ⟨rfl, rfl⟩, rfl, rfl, rfl, rfl⟩, AV.leS_refl _ _ _, rfl⟩⟩
      · simp only [if_neg he] at hK hQ
        simp only [errAV, if_neg he] at hK hQ ⊢
        conv => whnf
        refine hK _ _ ?_
        clear hK hQ K
        refine awp_seq2 fun K hK hQ => ?_
        conv => whnf
        refine hK _ _ ?_
        clear hK hQ K
        conv => whnf
        refine ⟨_, _, hrs, ?_⟩
        conv => whnf
        refine ⟨_, _, q2, ?_⟩
        conv => whnf
        refine ⟨_, _, St.upd_same _ _ _, ?_⟩
        conv => whnf
        exact ⟨_, _, ⟨rfl, rfl⟩, hle _, ⟨⟨rfl, rfl, ⟨rfl, rfl⟩, ⟨rfl, rfl⟩, rfl, ⟨rfl, rfl⟩, ⟨rfl, rfl⟩, rfl, rfl, rfl, rfl⟩, AV.leS_refl _ _ _, rfl⟩⟩
    have n8 : ¬ w = kStar := of_decide_eq_false h
    conv => whnf
    refine split_of (fun h => ?_) (fun h => ?_)
    · have hh : w = kOut := of_decide_eq_true h
      have hg : tabG w = some (fixG 8 outputWords) := by unfold tabG; rw [if_neg n0, if_neg n1, if_neg n2, if_neg n3, if_neg n4, if_neg n5, if_neg n6, if_neg n7, if_neg n8, if_pos hh]
      have hf := output_ok (G := G) ⟨_, hat3⟩
      have hpw : parseW (w :: l) = finG (fixG 8 outputWords l zeroV) := by unfold parseW; dsimp only; rw [hg]
      rw [hpw] at hK hQ
      clear hpw hg
      generalize fixG 8 outputWords l zeroV = r at *
      obtain ⟨e, l3, v3⟩ := r
      dsimp only at hf
      unfold finG at hK hQ
      dsimp only at hK hQ
      conv => whnf
      refine hK _ _ ?_
      clear hK hQ K
      refine awp_seq2 fun K hK hQ => ?_
      conv => whnf
      refine hK _ _ ?_
      clear hK hQ K
      refine awp_seq2 fun K hK hQ => ?_
      conv => whnf
      refine hf.mono ?_
      rintro o S' ⟨rfl, t3, hr⟩
      have q2 := hr.le _ _ q20
      have hle := hz2 S' hr.le
      have hrs := hr.at_
      by_cases he : e = 0
      · simp only [if_pos he] at hK hQ
        simp only [errAV, if_pos he]
        conv => whnf
        refine hK _ _ ?_
        clear hK hQ K
        refine awp_seq2 fun K hK hQ => ?_
        conv => whnf
        refine (rend_ok rb l3 _ S' hrs).mono ?_
        rintro o T ⟨rfl, rfl⟩
        cases l3 with
        | nil =>
          simp only [if_true] at hK hQ ⊢
          conv => whnf
          refine hK _ _ ?_
          clear hK hQ K
          conv => whnf
          refine ⟨_, _, hrs, ?_⟩
          conv => whnf
          refine ⟨_, _, q2, ?_⟩
          conv => whnf
          refine ⟨_, _, St.upd_same _ _ _, ?_⟩
          conv => whnf
          exact ⟨_, _, ⟨rfl, rfl⟩, hle _, ⟨⟨rfl, rfl, ⟨rfl, rfl⟩, ⟨rfl, rfl⟩, rfl, ⟨rfl, rfl⟩, ⟨rfl, rfl⟩, rfl, rfl, rfl, rfl⟩, rfl, rfl⟩⟩
        | cons x l3 =>
          simp only [reduceCtorEq, if_false] at hK hQ ⊢
          conv => whnf
          refine hK _ _ ?_
          clear hK hQ K
          conv => whnf
          refine ⟨_, _, hrs, ?_⟩
          conv => whnf
          refine ⟨_, _, q2, ?_⟩
          conv => whnf
          refine ⟨_, _, St.upd_same _ _ _, ?_⟩
          conv => whnf
          exact ⟨_, _, ⟨rfl, rfl⟩, hle _, ⟨⟨rfl, rfl, ⟨rfl, rfl⟩, ⟨rfl, rfl⟩, rfl, ⟨rfl, rfl⟩, ⟨rfl, rfl⟩, rfl, rfl, rfl, rfl⟩, AV.leS_refl _ _ _, rfl⟩⟩
      · simp only [if_neg he] at hK hQ
        simp only [errAV, if_neg he] at hK hQ ⊢
        conv => whnf
        refine hK _ _ ?_
        clear hK hQ K
        refine awp_seq2 fun K hK hQ => ?_
        conv => whnf
        refine hK _ _ ?_
        clear hK hQ K
        conv => whnf
        refine ⟨_, _, hrs, ?_⟩
        conv => whnf
        refine ⟨_, _, q2, ?_⟩
        conv => whnf
        refine ⟨_, _, St.upd_same _ _ _, ?_⟩
        conv => whnf
        exact ⟨_, _, ⟨rfl, rfl⟩, hle _, ⟨⟨rfl, rfl, ⟨rfl, rfl⟩, ⟨rfl, rfl⟩, rfl, ⟨rfl, rfl⟩, ⟨rfl, rfl⟩, rfl, rfl, rfl, rfl⟩, AV.leS_refl _ _ _, rfl⟩⟩
    have n9 : ¬ w = kOut := of_decide_eq_false h
    conv => whnf
    refine split_of (fun h => ?_) (fun h => ?_)
    · have hh : w = kConc := of_decide_eq_true h
      have hg : tabG w = some (conclG) := by unfold tabG; rw [if_neg n0, if_neg n1, if_neg n2, if_neg n3, if_neg n4, if_neg n5, if_neg n6, if_neg n7, if_neg n8, if_neg n9, if_pos hh]
      have hf := conclusion_ok (G := G) ⟨_, hat3⟩ hw1
      have hpw : parseW (w :: l) = finG (conclG l zeroV) := by unfold parseW; dsimp only; rw [hg]
      rw [hpw] at hK hQ
      clear hpw hg
      generalize conclG l zeroV = r at *
      obtain ⟨e, l3, v3⟩ := r
      dsimp only at hf
      unfold finG at hK hQ
      dsimp only at hK hQ
      conv => whnf
      refine hK _ _ ?_
      clear hK hQ K
      refine awp_seq2 fun K hK hQ => ?_
      conv => whnf
      refine hK _ _ ?_
      clear hK hQ K
      refine awp_seq2 fun K hK hQ => ?_
      conv => whnf
      refine hf.mono ?_
      rintro o S' ⟨rfl, t3, hr⟩
      have q2 := hr.le _ _ q20
      have hle := hz2 S' hr.le
      have hrs := hr.at_
      by_cases he : e = 0
      · simp only [if_pos he] at hK hQ
        simp only [errAV, if_pos he]
        conv => whnf
        refine hK _ _ ?_
        clear hK hQ K
        refine awp_seq2 fun K hK hQ => ?_
        conv => whnf
        refine (rend_ok rb l3 _ S' hrs).mono ?_
        rintro o T ⟨rfl, rfl⟩
        cases l3 with
        | nil =>
          simp only [if_true] at hK hQ ⊢
          conv => whnf
          refine hK _ _ ?_
          clear hK hQ K
          conv => whnf
          refine ⟨_, _, hrs, ?_⟩
          conv => whnf
          refine ⟨_, _, q2, ?_⟩
          conv => whnf
          refine ⟨_, _, St.upd_same _ _ _, ?_⟩
          conv => whnf
          exact ⟨_, _, ⟨rfl, rfl⟩, hle _, ⟨⟨rfl, rfl, ⟨rfl, rfl⟩, ⟨rfl, rfl⟩, rfl, ⟨rfl, rfl⟩, ⟨rfl, rfl⟩, rfl, rfl, rfl, rfl⟩, rfl, rfl⟩⟩
        | cons x l3 =>
          simp only [reduceCtorEq, if_false] at hK hQ ⊢
          conv => whnf
          refine hK _ _ ?_
          clear hK hQ K
          conv => whnf
          refine ⟨_, _, hrs, ?_⟩
          conv => whnf
          refine ⟨_, _, q2, ?_⟩
          conv => whnf
          refine ⟨_, _, St.upd_same _ _ _, ?_⟩
          conv => whnf
          exact ⟨_, _, ⟨rfl, rfl⟩, hle _, ⟨⟨rfl, rfl, ⟨rfl, rfl⟩, ⟨rfl, rfl⟩, rfl, ⟨rfl, rfl⟩, ⟨rfl, rfl⟩, rfl, rfl, rfl, rfl⟩, AV.leS_refl _ _ _, rfl⟩⟩
      · simp only [if_neg he] at hK hQ
        simp only [errAV, if_neg he] at hK hQ ⊢
        conv => whnf
        refine hK _ _ ?_
        clear hK hQ K
        refine awp_seq2 fun K hK hQ => ?_
        conv => whnf
        refine hK _ _ ?_
        clear hK hQ K
        conv => whnf
        refine ⟨_, _, hrs, ?_⟩
        conv => whnf
        refine ⟨_, _, q2, ?_⟩
        conv => whnf
        refine ⟨_, _, St.upd_same _ _ _, ?_⟩
        conv => whnf
        exact ⟨_, _, ⟨rfl, rfl⟩, hle _, ⟨⟨rfl, rfl, ⟨rfl, rfl⟩, ⟨rfl, rfl⟩, rfl, ⟨rfl, rfl⟩, ⟨rfl, rfl⟩, rfl, rfl, rfl, rfl⟩, AV.leS_refl _ _ _, rfl⟩⟩
    have n10 : ¬ w = kConc := of_decide_eq_false h
    conv => whnf
    refine split_of (fun h => ?_) (fun h => ?_)
    · have hh : w = kEnd := of_decide_eq_true h
      have hg : tabG w = some (fixG 10 lastWords) := by unfold tabG; rw [if_neg n0, if_neg n1, if_neg n2, if_neg n3, if_neg n4, if_neg n5, if_neg n6, if_neg n7, if_neg n8, if_neg n9, if_neg n10, if_pos hh]
      have hf := last_ok (G := G) ⟨_, hat3⟩
      have hpw : parseW (w :: l) = finG (fixG 10 lastWords l zeroV) := by unfold parseW; dsimp only; rw [hg]
      rw [hpw] at hK hQ
      clear hpw hg
      generalize fixG 10 lastWords l zeroV = r at *
      obtain ⟨e, l3, v3⟩ := r
      dsimp only at hf
      unfold finG at hK hQ
      dsimp only at hK hQ
      conv => whnf
      refine hK _ _ ?_
      clear hK hQ K
      refine awp_seq2 fun K hK hQ => ?_
      conv => whnf
      refine hK _ _ ?_
      clear hK hQ K
      refine awp_seq2 fun K hK hQ => ?_
      conv => whnf
      refine hf.mono ?_
      rintro o S' ⟨rfl, t3, hr⟩
      have q2 := hr.le _ _ q20
      have hle := hz2 S' hr.le
      have hrs := hr.at_
      by_cases he : e = 0
      · simp only [if_pos he] at hK hQ
        simp only [errAV, if_pos he]
        conv => whnf
        refine hK _ _ ?_
        clear hK hQ K
        refine awp_seq2 fun K hK hQ => ?_
        conv => whnf
        refine (rend_ok rb l3 _ S' hrs).mono ?_
        rintro o T ⟨rfl, rfl⟩
        cases l3 with
        | nil =>
          simp only [if_true] at hK hQ ⊢
          conv => whnf
          refine hK _ _ ?_
          clear hK hQ K
          conv => whnf
          refine ⟨_, _, hrs, ?_⟩
          conv => whnf
          refine ⟨_, _, q2, ?_⟩
          conv => whnf
          refine ⟨_, _, St.upd_same _ _ _, ?_⟩
          conv => whnf
          exact ⟨_, _, ⟨rfl, rfl⟩, hle _, ⟨⟨rfl, rfl, ⟨rfl, rfl⟩, ⟨rfl, rfl⟩, rfl, ⟨rfl, rfl⟩, ⟨rfl, rfl⟩, rfl, rfl, rfl, rfl⟩, rfl, rfl⟩⟩
        | cons x l3 =>
          simp only [reduceCtorEq, if_false] at hK hQ ⊢
          conv => whnf
          refine hK _ _ ?_
          clear hK hQ K
          conv => whnf
          refine ⟨_, _, hrs, ?_⟩
          conv => whnf
          refine ⟨_, _, q2, ?_⟩
          conv => whnf
          refine ⟨_, _, St.upd_same _ _ _, ?_⟩
          conv => whnf
          exact ⟨_, _, ⟨rfl, rfl⟩, hle _, ⟨⟨rfl, rfl, ⟨rfl, rfl⟩, ⟨rfl, rfl⟩, rfl, ⟨rfl, rfl⟩, ⟨rfl, rfl⟩, rfl, rfl, rfl, rfl⟩, AV.leS_refl _ _ _, rfl⟩⟩
      · simp only [if_neg he] at hK hQ
        simp only [errAV, if_neg he] at hK hQ ⊢
        conv => whnf
        refine hK _ _ ?_
        clear hK hQ K
        refine awp_seq2 fun K hK hQ => ?_
        conv => whnf
        refine hK _ _ ?_
        clear hK hQ K
        conv => whnf
        refine ⟨_, _, hrs, ?_⟩
        conv => whnf
        refine ⟨_, _, q2, ?_⟩
        conv => whnf
        refine ⟨_, _, St.upd_same _ _ _, ?_⟩
        conv => whnf
        exact ⟨_, _, ⟨rfl, rfl⟩, hle _, ⟨⟨rfl, rfl, ⟨rfl, rfl⟩, ⟨rfl, rfl⟩, rfl, ⟨rfl, rfl⟩, ⟨rfl, rfl⟩, rfl, rfl, rfl, rfl⟩, AV.leS_refl _ _ _, rfl⟩⟩
    have n11 : ¬ w = kEnd := of_decide_eq_false h
    conv => whnf
    have hg : tabG w = none := by unfold tabG; rw [if_neg n0, if_neg n1, if_neg n2, if_neg n3, if_neg n4, if_neg n5, if_neg n6, if_neg n7, if_neg n8, if_neg n9, if_neg n10, if_neg n11]
    have hpw : parseW (w :: l) = (zeroV, 80) := by unfold parseW; dsimp only; rw [hg]
    rw [hpw] at hK hQ
    have q2 := hat3.le _ _ q20
    have hle := hz2 S2 hat3.le
    refine hK _ _ ?_
    clear hK
    refine awp_seq2 fun K hK hQ' => ?_
    conv => whnf
    refine (fail_ok 80 _).mono ?_
    rintro o S' ⟨rfl, rfl⟩
    conv => whnf
    refine ⟨_, _, q2, ?_⟩
    conv => whnf
    refine hQ' _ _ _ (by simp) ?_
    conv => whnf
    refine ⟨_, _, St.upd_same _ _ _, ?_⟩
    conv => whnf
    exact ⟨_, _, ⟨rfl, rfl⟩, hle _, ⟨⟨rfl, rfl, rfl, rfl, rfl, rfl, rfl, rfl, rfl, rfl, rfl⟩, AV.leS_refl _ _ _, rfl⟩⟩
end Go.Proofs.YtcpdgnkhkdddhaaGreatDoor.Aw

set_option maxRecDepth 100000
set_option linter.unusedVariables false
set_option linter.unusedSimpArgs false
namespace Go.Proofs.YtcpdgnkhkdddhaaGreatDoor.Aw
open Go Go.RowKit
variable {G : Nat → Option (List AV)}

/-- Two cells of a step beside the reader. -/
structure EndS (S F : St) (rb b2 b3 : Nat) (ws : List ByteArray) (e : Int) (cs : List AV) : Prop where
  rd : F rb = some (rdO ws e)
  sv : F b3 = some (.obj 54 cs)
  rs : F b2 = some (.obj 54 stepZ)
  fr : ∀ x p, x ≠ rb → S x = some p → F x = some p
  n2 : b2 ≠ rb
  n3 : b3 ≠ rb
  n32 : b3 ≠ b2
  z2 : S b2 = none
  z3 : S b3 = none
theorem EndS.le {S F F' : St} {rb b2 b3 : Nat} {ws : List ByteArray} {e : Int} {cs : List AV} (h : EndS S F rb b2 b3 ws e cs) (hl : St.le F F') : EndS S F' rb b2 b3 ws e cs :=
  ⟨hl _ _ h.rd, hl _ _ h.sv, hl _ _ h.rs, fun x p h1 h2 => hl _ _ (h.fr x p h1 h2), h.n2, h.n3, h.n32, h.z2, h.z3⟩
theorem EndS.more {S F : St} {rb b2 b3 : Nat} {ws : List ByteArray} {e : Int} {cs : List AV} (h : EndS S F rb b2 b3 ws e cs) {b : Nat} (hb : F b = none) (o : Own) : EndS S (F.upd b o) rb b2 b3 ws e cs := h.le (St.le_upd' (St.le_refl _) hb o)
theorem EndS.rdr {S F : St} {rb b2 b3 : Nat} {ws : List ByteArray} {e : Int} {cs : List AV} (h : EndS S F rb b2 b3 ws e cs) (ws' : List ByteArray) (e' : Int) : EndS S (F.upd rb (rdO ws' e')) rb b2 b3 ws' e' cs :=
  ⟨St.upd_same _ _ _, St.ov h.n3 h.sv, St.ov h.n2 h.rs, fun x p h1 h2 => St.ov h1 (h.fr x p h1 h2), h.n2, h.n3, h.n32, h.z2, h.z3⟩
theorem EndS.put {S F : St} {rb b2 b3 : Nat} {ws : List ByteArray} {e : Int} {cs : List AV} (h : EndS S F rb b2 b3 ws e cs) (cs' : List AV) : EndS S (F.upd b3 (.obj 54 cs')) rb b2 b3 ws e cs' :=
  ⟨St.ov h.n3.symm h.rd, St.upd_same _ _ _, St.ov h.n32.symm h.rs, fun x p h1 h2 => St.ov (fun e => by rw [e, h.z3] at h2; cases h2) (h.fr x p h1 h2), h.n2, h.n3, h.n32, h.z2, h.z3⟩
theorem EndS.fin {S F : St} {rb b2 b3 : Nat} {ws : List ByteArray} {e : Int} {cs : List AV} (h : EndS S F rb b2 b3 ws e cs) (o : Own) : St.le (S.upd rb (rdO ws e)) (F.upd b2 o) := fun x p hx => by
  by_cases h1 : x = rb
  · subst h1; rw [St.upd_same] at hx; cases hx; exact St.ov h.n2.symm h.rd
  · rw [St.upd_ne _ _ _ _ h1] at hx
    exact St.ov (fun e => by rw [e, h.z2] at hx; cases hx) (h.fr x p h1 hx)
/-- What the reader is left with says what proof's reader says. -/
def Agr (v' : StepV) (ws' : List ByteArray) (e' : Int) (R : RetG) : Prop := restE ws' e' = (finG R).2 ∧ ((finG R).2 = 0 → v' = R.2.2)
theorem Agr.of {v' : StepV} {ws' : List ByteArray} {e' : Int} {R : RetG} (h1 : e' = R.1) (h2 : R.1 = 0 → ws' = R.2.1 ∧ v' = R.2.2) : Agr v' ws' e' R := by
  subst h1
  unfold Agr finG restE
  dsimp only
  by_cases h : R.1 = 0
  · obtain ⟨a, b⟩ := h2 h
    rw [if_pos h, a]
    refine ⟨?_, fun _ => b⟩
    by_cases hl : R.2.1 = []
    · rw [if_pos hl, if_neg (fun hh => hh.2 hl), h]
    · rw [if_neg hl, if_pos ⟨h, hl⟩]
  · rw [if_neg h, if_neg (fun hh => h hh.1)]
    exact ⟨rfl, fun hh => absurd hh h⟩
theorem Agr.err {v' : StepV} {ws' : List ByteArray} {e' : Int} {R : RetG} (h0 : e' ≠ 0) (h1 : (finG R).2 = e') : Agr v' ws' e' R := by
  refine ⟨?_, fun h => absurd (h1.symm.trans h) h0⟩
  unfold restE
  rw [if_neg (fun hh => h0 hh.1), h1]
theorem numR_ok {low : Int} {ws : List ByteArray} : numR low ws 0 = numG low ws := if_pos rfl
theorem numR_err {low : Int} {ws : List ByteArray} {e : Int} (h : e ≠ 0) : numR low ws e = (⟨#[]⟩, e, ws) := if_neg h
theorem oneR_err {x : ByteArray} {ws : List ByteArray} {e : Int} (h : e ≠ 0) : oneR x ws e = (ws, e) := if_neg h
theorem id_agr {v : StepV} {l : List ByteArray} (hl : l ≠ []) {o : List ByteArray × Int} (ho : oneR colonS l 0 = o) {m : ByteArray × Int × List ByteArray} (hm : numR 1 o.1 o.2 = m) : Agr { v with ids := [m.1] } m.2.2 m.2.1 (idG l v) := by
  cases l with
  | nil => exact absurd rfl hl
  | cons x l =>
    unfold idG
    by_cases hx : x = colonS
    · subst hx
      have : o = (l, 0) := by rw [← ho]; simp [oneR]
      subst this
      rw [numR_ok] at hm
      rw [if_pos (by rfl), show (colonS :: l).tail = l from rfl, hm]
      by_cases h0 : m.2.1 = 0
      · rw [if_pos h0]; exact Agr.of h0 (fun _ => ⟨rfl, rfl⟩)
      · rw [if_neg h0]; exact Agr.of rfl (fun h => absurd h h0)
    · have : o = (l, 80) := by rw [← ho]; simp [oneR, hx]
      subst this
      rw [numR_err (e := 80) (by decide)] at hm
      subst hm
      rw [if_neg (by simpa using hx)]
      exact Agr.err (show (80 : Int) ≠ 0 by decide) rfl
theorem all_agr {v : StepV} {l : List ByteArray} {n : ByteArray × Int × List ByteArray} (hn : numR 0 l 0 = n) {o : List ByteArray × Int} (ho : oneR colonS n.2.2 n.2.1 = o) {m : ByteArray × Int × List ByteArray} (hm : numR 1 o.1 o.2 = m) :
    Agr { v with n6 := 6, s8 := n.1, ids := [m.1] } m.2.2 m.2.1 (allG l v) := by
  rw [numR_ok] at hn
  unfold allG
  rw [hn]
  by_cases h0 : n.2.1 = 0
  · rw [if_pos h0]
    rw [h0] at ho
    by_cases hl : n.2.2 = []
    · rw [if_pos hl]
      rw [hl] at ho
      have : o = ([], 82) := by rw [← ho]; simp [oneR]
      subst this
      rw [numR_err (by decide)] at hm
      subst hm
      exact Agr.err (by decide) rfl
    · rw [if_neg hl]
      exact id_agr (v := { v with n6 := 6, s8 := n.1 }) hl ho hm
  · rw [if_neg h0]
    rw [oneR_err h0] at ho
    subst ho
    rw [numR_err h0] at hm
    subst hm
    exact Agr.of rfl (fun h => absurd h h0)
theorem bounds_agr1 {v : StepV} {l : List ByteArray} {n : ByteArray × Int × List ByteArray} (hn : numR (-1) l 0 = n) (hi : isR n.2.2 n.2.1 colonS = false) {k : ByteArray × Int × List ByteArray} (hk : numR (-1) n.2.2 n.2.1 = k) :
    Agr { v with n6 := 5, s7 := n.1, s8 := k.1 } k.2.2 k.2.1 (boundsG l v) := by
  rw [numR_ok] at hn
  unfold boundsG
  rw [hn]
  by_cases h0 : n.2.1 = 0
  · rw [if_pos h0]
    rw [h0] at hk hi
    rw [numR_ok] at hk
    have hi : ¬ n.2.2.head? = some colonS := by simpa [isR] using hi
    unfold idG upG
    rw [if_neg hi, if_pos rfl]
    dsimp only
    rw [hk]
    exact Agr.of rfl (fun _ => ⟨rfl, rfl⟩)
  · rw [if_neg h0]
    rw [numR_err h0] at hk
    subst hk
    exact Agr.of rfl (fun h => absurd h h0)
theorem bounds_agr2 {v : StepV} {l : List ByteArray} {n : ByteArray × Int × List ByteArray} (hn : numR (-1) l 0 = n) (hi : isR n.2.2 n.2.1 colonS = true) {m : ByteArray × Int × List ByteArray} (hm : numR 1 n.2.2.tail 0 = m) {k : ByteArray × Int × List ByteArray} (hk : numR (-1) m.2.2 m.2.1 = k) :
    Agr { v with n6 := 5, s7 := n.1, ids := [m.1], s8 := k.1 } k.2.2 k.2.1 (boundsG l v) := by
  rw [numR_ok] at hn hm
  have hi : n.2.1 = 0 ∧ n.2.2.head? = some colonS := by simpa [isR] using hi
  unfold boundsG
  rw [hn, if_pos hi.1]
  unfold idG upG
  rw [if_pos hi.2, hm]
  by_cases h0 : m.2.1 = 0
  · rw [if_pos h0, if_pos rfl]
    rw [h0, numR_ok] at hk
    dsimp only
    rw [hk]
    exact Agr.of rfl (fun _ => ⟨rfl, rfl⟩)
  · rw [if_neg h0, if_neg h0]
    rw [numR_err h0] at hk
    subst hk
    exact Agr.of rfl (fun h => absurd h h0)
theorem ends_ok1 {S : St} {rb : Nat} {ws0 : List ByteArray} (h : S rb = some (rdO ws0 0)) (hw0 : ∀ w ∈ ws0, w.size ≤ 9000000) :
    Triple P (C G) 118 [.ref rb 0] S fun o S' => ∃ v' ws' e', o = .ret (stepAV v') ∧ S' = S.upd rb (rdO ws' e') ∧ ws' <:+ ws0 ∧ Agr v' ws' e' (conclG ws0 zeroV) := by
  obtain ⟨R, hR⟩ : ∃ R, conclG ws0 zeroV = R := ⟨_, rfl⟩
  rw [hR]
  refine triple_of_awp (hT G) hm Tryz.func118 rfl (by decide +kernel) rfl (by decide +kernel) (by show 1 ≤ _; decide +kernel) rfl ?_
  refine awp_seq2 fun K hK hQ => ?_
  conv => whnf
  intro b2 hb2
  conv => whnf
  refine hK _ _ ?_
  clear hK hQ K
  refine awp_seq2 fun K hK hQ => ?_
  conv => whnf
  intro b3 hb3
  conv => whnf
  refine ⟨_, _, St.upd_same _ _ _, ?_⟩
  conv => whnf
  rw [St.upd_upd]
  refine hK _ _ ?_
  clear hK hQ K
  have hE : EndS S ((S.upd b2 (.obj 54 stepZ)).upd b3 (.obj 54 (.int .i64 9 :: stepZ.tail))) rb b2 b3 ws0 0 (.int .i64 9 :: stepZ.tail) :=
    ⟨St.up hb3 (St.up hb2 h), St.upd_same _ _ _, St.up hb3 (St.upd_same _ _ _), fun x p _ h2 => St.up hb3 (St.up hb2 h2), (fun e => by rw [e, h] at hb2; cases hb2), (fun e => by rw [e, St.up hb2 h] at hb3; cases hb3), (fun e => by rw [e, St.upd_same] at hb3; cases hb3), hb2, St.no hb3⟩
  change awp _ _ _ _ ((S.upd b2 (.obj 54 stepZ)).upd b3 (.obj 54 (.int .i64 9 :: stepZ.tail))) _
  generalize (S.upd b2 (.obj 54 stepZ)).upd b3 (.obj 54 (.int .i64 9 :: stepZ.tail)) = F at *
  have ht := rtake_ok1 (G := G) hE.rd
  unfold takeR at ht
  rw [if_pos rfl] at ht
  refine awp_seq2 fun K hK hQ => ?_
  conv => whnf
  refine ht.mono ?_
  cases ws0 with
  | nil =>
    dsimp only
    rintro o T ⟨rfl, rfl⟩
    have hE1 := hE.rdr [] 82
    conv => whnf
    refine hK _ _ ?_
    clear hK hQ K
    refine awp_seq2 fun K hK hQ => ?_
    conv => whnf
    refine ⟨_, _, hE1.rd, ?_⟩
    conv => whnf
    refine hK _ _ ?_
    clear hK hQ K
    conv => whnf
    refine ⟨_, _, hE1.sv, ?_⟩
    conv => whnf
    refine ⟨_, _, hE1.rs, ?_⟩
    conv => whnf
    refine ⟨_, _, St.upd_same _ _ _, ?_⟩
    conv => whnf
    refine ⟨_, _, ⟨{ zeroV with kind := 9 }, _, _, rfl, rfl, List.suffix_refl _, by rw [← hR]; exact Agr.of rfl (fun h => by cases h)⟩, hE1.fin _, ⟨rfl, rfl, rfl, rfl, rfl, rfl, rfl, rfl, rfl, rfl, rfl⟩⟩
  | cons w l =>
    dsimp only
    rintro o T ⟨rfl, rfl⟩
    have hE1 := hE.rdr l 0
    clear ht hE
    generalize F.upd rb (rdO l 0) = T at *
    have hsl : ∀ y ∈ l, y.size ≤ 9000000 := fun y hy => hw0 y (by simp [hy])
    conv => whnf
    refine hK _ _ ?_
    clear hK hQ K
    refine awp_seq2 fun K hK hQ => ?_
    conv => whnf
    refine ⟨_, _, hE1.rd, ?_⟩
    conv => whnf
    unfold conclG at hR
    dsimp only at hR
    by_cases k1 : w = noneS
    · rw [show decide (w = (⟨#[78, 79, 78, 69]⟩ : ByteArray)) = true from decide_eq_true k1]
      rw [if_pos k1] at hR
      conv => whnf
      refine ⟨_, _, hE1.sv, ?_⟩
      conv => whnf
      have hE2 := hE1.put [.int .i64 9, .str ByteArray.empty, .nils, .nils, .str ByteArray.empty, .nils, .nils, .int .i64 1, .str ByteArray.empty, .str ByteArray.empty]
      refine hK _ _ ?_
      clear hK hQ K
      conv => whnf
      refine ⟨_, _, hE2.sv, ?_⟩
      conv => whnf
      refine ⟨_, _, hE2.rs, ?_⟩
      conv => whnf
      refine ⟨_, _, St.upd_same _ _ _, ?_⟩
      conv => whnf
      refine ⟨_, _, ⟨{ zeroV with kind := 9, n6 := 1 }, _, _, rfl, rfl, List.suffix_cons _ _, by rw [← hR]; exact Agr.of rfl (fun _ => ⟨rfl, rfl⟩)⟩, hE2.fin _, ⟨rfl, rfl, rfl, rfl, rfl, rfl, rfl, rfl, rfl, rfl, rfl⟩⟩
    rw [show decide (w = (⟨#[78, 79, 78, 69]⟩ : ByteArray)) = false from decide_eq_false k1]
    rw [if_neg k1] at hR
    conv => whnf
    by_cases k2 : w = unsatS
    · have k2' : w ≠ satS := by rw [k2]; decide
      rw [show decide (w = (⟨#[85, 78, 83, 65, 84]⟩ : ByteArray)) = true from decide_eq_true k2]
      rw [if_neg k2', if_pos k2] at hR
      conv => whnf
      refine ⟨_, _, hE1.sv, ?_⟩
      conv => whnf
      have hE2 := hE1.put [.int .i64 9, .str ByteArray.empty, .nils, .nils, .str ByteArray.empty, .nils, .nils, .int .i64 2, .str ByteArray.empty, .str ByteArray.empty]
      refine (more_ok (G := G) hE2.rd).mono ?_
      rintro o T2 ⟨rfl, rfl⟩
      cases l with
      | nil =>
        conv => whnf
        refine hK _ _ ?_
        clear hK hQ K
        conv => whnf
        refine ⟨_, _, hE2.sv, ?_⟩
        conv => whnf
        refine ⟨_, _, hE2.rs, ?_⟩
        conv => whnf
        refine ⟨_, _, St.upd_same _ _ _, ?_⟩
        conv => whnf
        refine ⟨_, _, ⟨{ zeroV with kind := 9, n6 := 2 }, _, _, rfl, rfl, List.suffix_cons _ _, by rw [← hR]; exact Agr.of rfl (fun _ => ⟨rfl, rfl⟩)⟩, hE2.fin _, ⟨rfl, rfl, rfl, rfl, rfl, rfl, rfl, rfl, rfl, rfl, rfl⟩⟩
      | cons x l =>
        obtain ⟨oo, ho⟩ : ∃ o, oneR colonS (x :: l) 0 = o := ⟨_, rfl⟩
        obtain ⟨m, hm⟩ : ∃ o, numR 1 oo.1 oo.2 = o := ⟨_, rfl⟩
        have sf1 : oo.1 <:+ x :: l := by rw [← ho]; exact oneR_suffix _ _ _
        have sf2 : m.2.2 <:+ x :: l := by rw [← hm]; exact (numR_suffix _ _ _).trans sf1
        rw [show moreR (x :: l) 0 = true from by simp [moreR]]
        conv => whnf
        refine (one_ok (G := G) hE2.rd colonS).mono ?_
        rw [ho]
        rintro o T3 ⟨rfl, rfl⟩
        have hE3 := hE2.rdr oo.1 oo.2
        conv => whnf
        refine (number1_ok (G := G) hE3.rd (fun w hw => hsl w (sf1.mem hw)) 1 (by omega) (by omega)).mono ?_
        rw [hm]
        rintro o T3 ⟨rfl, rfl⟩
        have hE4 := hE3.rdr m.2.2 m.2.1
        conv => whnf
        intro bb hbb
        have hE5 := hE4.more hbb (.tip 9 1 1)
        conv => whnf
        refine ⟨_, _, hE5.sv, ?_⟩
        conv => whnf
        have hE6 := hE5.put [.int .i64 9, .str ByteArray.empty, .nils, .nils, .str ByteArray.empty, .nils, .sl (.own bb) 1 [[.str m.1]], .int .i64 2, .str ByteArray.empty, .str ByteArray.empty]
        refine hK _ _ ?_
        clear hK hQ K
        conv => whnf
        refine ⟨_, _, hE6.sv, ?_⟩
        conv => whnf
        refine ⟨_, _, hE6.rs, ?_⟩
        conv => whnf
        refine ⟨_, _, St.upd_same _ _ _, ?_⟩
        conv => whnf
        refine ⟨_, _, ⟨{ zeroV with kind := 9, n6 := 2, ids := [m.1] }, _, _, rfl, rfl, sf2.trans (List.suffix_cons _ _), by rw [← hR]; exact id_agr (by simp) ho hm⟩, hE6.fin _, ⟨rfl, rfl, rfl, rfl, rfl, rfl, ⟨rfl, rfl⟩, rfl, rfl, rfl, rfl⟩⟩
    rw [show decide (w = (⟨#[85, 78, 83, 65, 84]⟩ : ByteArray)) = false from decide_eq_false k2]
    conv => whnf
    by_cases k3 : w = satS
    · rw [show decide (w = (⟨#[83, 65, 84]⟩ : ByteArray)) = true from decide_eq_true k3]
      rw [if_pos k3] at hR
      conv => whnf
      refine ⟨_, _, hE1.sv, ?_⟩
      conv => whnf
      have hE2 := hE1.put [.int .i64 9, .str ByteArray.empty, .nils, .nils, .str ByteArray.empty, .nils, .nils, .int .i64 3, .str ByteArray.empty, .str ByteArray.empty]
      refine hK _ _ ?_
      clear hK hQ K
      conv => whnf
      refine ⟨_, _, hE2.sv, ?_⟩
      conv => whnf
      refine ⟨_, _, hE2.rs, ?_⟩
      conv => whnf
      refine ⟨_, _, St.upd_same _ _ _, ?_⟩
      conv => whnf
      refine ⟨_, _, ⟨{ zeroV with kind := 9, n6 := 3 }, _, _, rfl, rfl, List.suffix_cons _ _, by rw [← hR]; exact Agr.of rfl (fun _ => ⟨rfl, rfl⟩)⟩, hE2.fin _, ⟨rfl, rfl, rfl, rfl, rfl, rfl, rfl, rfl, rfl, rfl, rfl⟩⟩
    rw [show decide (w = (⟨#[83, 65, 84]⟩ : ByteArray)) = false from decide_eq_false k3]
    rw [if_neg k3, if_neg k2] at hR
    conv => whnf
    by_cases k4 : w = boundsS
    · have k4' : w ≠ allS := by rw [k4]; decide
      rw [show decide (w = (⟨#[66, 79, 85, 78, 68, 83]⟩ : ByteArray)) = true from decide_eq_true k4]
      rw [if_neg k4', if_pos k4] at hR
      obtain ⟨n, hn⟩ : ∃ o, numR (-1) l 0 = o := ⟨_, rfl⟩
      have sf1 : n.2.2 <:+ l := by rw [← hn]; exact numR_suffix _ _ _
      conv => whnf
      refine ⟨_, _, hE1.sv, ?_⟩
      conv => whnf
      have hE2 := hE1.put [.int .i64 9, .str ByteArray.empty, .nils, .nils, .str ByteArray.empty, .nils, .nils, .int .i64 5, .str ByteArray.empty, .str ByteArray.empty]
      refine (number1_ok (G := G) hE2.rd hsl (-1) (by omega) (by omega)).mono ?_
      rw [hn]
      rintro o T3 ⟨rfl, rfl⟩
      have hE3 := hE2.rdr n.2.2 n.2.1
      conv => whnf
      refine ⟨_, _, hE3.sv, ?_⟩
      conv => whnf
      have hE4 := hE3.put [.int .i64 9, .str ByteArray.empty, .nils, .nils, .str ByteArray.empty, .nils, .nils, .int .i64 5, .str n.1, .str ByteArray.empty]
      refine (is_ok (G := G) hE4.rd colonS).mono ?_
      cases hi : isR n.2.2 n.2.1 colonS with
      | false =>
        obtain ⟨k, hk⟩ : ∃ o, numR (-1) n.2.2 n.2.1 = o := ⟨_, rfl⟩
        have sf2 : k.2.2 <:+ l := by rw [← hk]; exact (numR_suffix _ _ _).trans sf1
        rintro o T3 ⟨rfl, rfl⟩
        conv => whnf
        refine (number1_ok (G := G) hE4.rd (fun w hw => hsl w (sf1.mem hw)) (-1) (by omega) (by omega)).mono ?_
        rw [hk]
        rintro o T3 ⟨rfl, rfl⟩
        have hE5 := hE4.rdr k.2.2 k.2.1
        conv => whnf
        refine ⟨_, _, hE5.sv, ?_⟩
        conv => whnf
        have hE6 := hE5.put [.int .i64 9, .str ByteArray.empty, .nils, .nils, .str ByteArray.empty, .nils, .nils, .int .i64 5, .str n.1, .str k.1]
        refine hK _ _ ?_
        clear hK hQ K
        conv => whnf
        refine ⟨_, _, hE6.sv, ?_⟩
        conv => whnf
        refine ⟨_, _, hE6.rs, ?_⟩
        conv => whnf
        refine ⟨_, _, St.upd_same _ _ _, ?_⟩
        conv => whnf
        refine ⟨_, _, ⟨{ zeroV with kind := 9, n6 := 5, s7 := n.1, s8 := k.1 }, _, _, rfl, rfl, sf2.trans (List.suffix_cons _ _), by rw [← hR]; exact bounds_agr1 (v := { zeroV with kind := 9 }) hn hi hk⟩, hE6.fin _, ⟨rfl, rfl, rfl, rfl, rfl, rfl, rfl, rfl, rfl, rfl, rfl⟩⟩
      | true =>
        obtain ⟨h1, h2⟩ : n.2.1 = 0 ∧ n.2.2.head? = some colonS := by simpa [isR] using hi
        have ho : oneR colonS n.2.2 n.2.1 = (n.2.2.tail, 0) := by
          rw [h1]
          cases hn2 : n.2.2 with
          | nil => rw [hn2] at h2; cases h2
          | cons x l => rw [hn2] at h2; simp at h2; simp [oneR, h2]
        obtain ⟨m, hm⟩ : ∃ o, numR 1 n.2.2.tail 0 = o := ⟨_, rfl⟩
        have sf2 : n.2.2.tail <:+ l := (List.tail_suffix _).trans sf1
        have sf3 : m.2.2 <:+ l := by rw [← hm]; exact (numR_suffix _ _ _).trans sf2
        obtain ⟨k, hk⟩ : ∃ o, numR (-1) m.2.2 m.2.1 = o := ⟨_, rfl⟩
        have sf4 : k.2.2 <:+ l := by rw [← hk]; exact (numR_suffix _ _ _).trans sf3
        rintro o T3 ⟨rfl, rfl⟩
        conv => whnf
        refine (one_ok (G := G) hE4.rd colonS).mono ?_
        rw [ho]
        rintro o T3 ⟨rfl, rfl⟩
        have hE5 := hE4.rdr n.2.2.tail 0
        conv => whnf
        refine (number1_ok (G := G) hE5.rd (fun w hw => hsl w (sf2.mem hw)) 1 (by omega) (by omega)).mono ?_
        rw [hm]
        rintro o T3 ⟨rfl, rfl⟩
        have hE6 := hE5.rdr m.2.2 m.2.1
        conv => whnf
        intro bb hbb
        have hE7 := hE6.more hbb (.tip 9 1 1)
        conv => whnf
        refine ⟨_, _, hE7.sv, ?_⟩
        conv => whnf
        have hE8 := hE7.put [.int .i64 9, .str ByteArray.empty, .nils, .nils, .str ByteArray.empty, .nils, .sl (.own bb) 1 [[.str m.1]], .int .i64 5, .str n.1, .str ByteArray.empty]
        refine (number1_ok (G := G) hE8.rd (fun w hw => hsl w (sf3.mem hw)) (-1) (by omega) (by omega)).mono ?_
        rw [hk]
        rintro o T3 ⟨rfl, rfl⟩
        have hE9 := hE8.rdr k.2.2 k.2.1
        conv => whnf
        refine ⟨_, _, hE9.sv, ?_⟩
        conv => whnf
        have hE10 := hE9.put [.int .i64 9, .str ByteArray.empty, .nils, .nils, .str ByteArray.empty, .nils, .sl (.own bb) 1 [[.str m.1]], .int .i64 5, .str n.1, .str k.1]
        refine hK _ _ ?_
        clear hK hQ K
        conv => whnf
        refine ⟨_, _, hE10.sv, ?_⟩
        conv => whnf
        refine ⟨_, _, hE10.rs, ?_⟩
        conv => whnf
        refine ⟨_, _, St.upd_same _ _ _, ?_⟩
        conv => whnf
        refine ⟨_, _, ⟨{ zeroV with kind := 9, n6 := 5, s7 := n.1, ids := [m.1], s8 := k.1 }, _, _, rfl, rfl, sf4.trans (List.suffix_cons _ _), by rw [← hR]; exact bounds_agr2 (v := { zeroV with kind := 9 }) hn hi hm hk⟩, hE10.fin _, ⟨rfl, rfl, rfl, rfl, rfl, rfl, ⟨rfl, rfl⟩, rfl, rfl, rfl, rfl⟩⟩
    rw [show decide (w = (⟨#[66, 79, 85, 78, 68, 83]⟩ : ByteArray)) = false from decide_eq_false k4]
    conv => whnf
    by_cases k5 : w = allS
    · rw [show decide (w = (⟨#[65, 76, 76]⟩ : ByteArray)) = true from decide_eq_true k5]
      rw [if_pos k5] at hR
      obtain ⟨n, hn⟩ : ∃ o, numR 0 l 0 = o := ⟨_, rfl⟩
      have sf1 : n.2.2 <:+ l := by rw [← hn]; exact numR_suffix _ _ _
      obtain ⟨oo, ho⟩ : ∃ o, oneR colonS n.2.2 n.2.1 = o := ⟨_, rfl⟩
      have sf2 : oo.1 <:+ l := by rw [← ho]; exact (oneR_suffix _ _ _).trans sf1
      obtain ⟨m, hm⟩ : ∃ o, numR 1 oo.1 oo.2 = o := ⟨_, rfl⟩
      have sf3 : m.2.2 <:+ l := by rw [← hm]; exact (numR_suffix _ _ _).trans sf2
      conv => whnf
      refine ⟨_, _, hE1.sv, ?_⟩
      conv => whnf
      have hE2 := hE1.put [.int .i64 9, .str ByteArray.empty, .nils, .nils, .str ByteArray.empty, .nils, .nils, .int .i64 6, .str ByteArray.empty, .str ByteArray.empty]
      refine (number1_ok (G := G) hE2.rd hsl 0 (by omega) (by omega)).mono ?_
      rw [hn]
      rintro o T3 ⟨rfl, rfl⟩
      have hE3 := hE2.rdr n.2.2 n.2.1
      conv => whnf
      refine ⟨_, _, hE3.sv, ?_⟩
      conv => whnf
      have hE4 := hE3.put [.int .i64 9, .str ByteArray.empty, .nils, .nils, .str ByteArray.empty, .nils, .nils, .int .i64 6, .str ByteArray.empty, .str n.1]
      refine (one_ok (G := G) hE4.rd colonS).mono ?_
      rw [ho]
      rintro o T3 ⟨rfl, rfl⟩
      have hE5 := hE4.rdr oo.1 oo.2
      conv => whnf
      refine (number1_ok (G := G) hE5.rd (fun w hw => hsl w (sf2.mem hw)) 1 (by omega) (by omega)).mono ?_
      rw [hm]
      rintro o T3 ⟨rfl, rfl⟩
      have hE6 := hE5.rdr m.2.2 m.2.1
      conv => whnf
      intro bb hbb
      have hE7 := hE6.more hbb (.tip 9 1 1)
      conv => whnf
      refine ⟨_, _, hE7.sv, ?_⟩
      conv => whnf
      have hE8 := hE7.put [.int .i64 9, .str ByteArray.empty, .nils, .nils, .str ByteArray.empty, .nils, .sl (.own bb) 1 [[.str m.1]], .int .i64 6, .str ByteArray.empty, .str n.1]
      refine hK _ _ ?_
      clear hK hQ K
      conv => whnf
      refine ⟨_, _, hE8.sv, ?_⟩
      conv => whnf
      refine ⟨_, _, hE8.rs, ?_⟩
      conv => whnf
      refine ⟨_, _, St.upd_same _ _ _, ?_⟩
      conv => whnf
      refine ⟨_, _, ⟨{ zeroV with kind := 9, n6 := 6, s8 := n.1, ids := [m.1] }, _, _, rfl, rfl, sf3.trans (List.suffix_cons _ _), by rw [← hR]; exact all_agr (v := { zeroV with kind := 9 }) hn ho hm⟩, hE8.fin _, ⟨rfl, rfl, rfl, rfl, rfl, rfl, ⟨rfl, rfl⟩, rfl, rfl, rfl, rfl⟩⟩
    rw [show decide (w = (⟨#[65, 76, 76]⟩ : ByteArray)) = false from decide_eq_false k5]
    rw [if_neg k5, if_neg k4] at hR
    conv => whnf
    refine (rfail_ok (G := G) hE1.rd 80).mono ?_
    rw [if_pos rfl]
    rintro o T3 ⟨rfl, rfl⟩
    have hE2 := hE1.rdr l 80
    conv => whnf
    refine hK _ _ ?_
    clear hK hQ K
    conv => whnf
    refine ⟨_, _, hE2.sv, ?_⟩
    conv => whnf
    refine ⟨_, _, hE2.rs, ?_⟩
    conv => whnf
    refine ⟨_, _, St.upd_same _ _ _, ?_⟩
    conv => whnf
    refine ⟨_, _, ⟨{ zeroV with kind := 9 }, _, _, rfl, rfl, List.suffix_cons _ _, by rw [← hR]; exact Agr.of rfl (fun h => absurd (show (80 : Int) = 0 from h) (by decide))⟩, hE2.fin _, ⟨rfl, rfl, rfl, rfl, rfl, rfl, rfl, rfl, rfl, rfl, rfl⟩⟩
end Go.Proofs.YtcpdgnkhkdddhaaGreatDoor.Aw

set_option maxRecDepth 100000
set_option linter.unusedVariables false
set_option linter.unusedSimpArgs false
namespace Go.Proofs.YtcpdgnkhkdddhaaGreatDoor.Aw
open Go Go.RowKit
variable {G : Nat → Option (List AV)}

def tabR (w : ByteArray) (ws : List ByteArray) : RetG := match tabG w with | some f => f ws zeroV | none => (80, ws, zeroV)
theorem parseW_tabR (w : ByteArray) (l : List ByteArray) : parseW (w :: l) = finG (tabR w l) := by
  unfold parseW tabR
  dsimp only
  cases tabG w <;> rfl
/-- What a loop of words leaves. -/
def LoopR {α : Type} (W : α × Int × List ByteArray) (a : α) (e : Int) (ws : List ByteArray) : Prop := e = W.2.1 ∧ (e = 0 → a = W.1 ∧ ws = W.2.2)
theorem one_wordsR (x : ByteArray) (ws : List ByteArray) (e : Int) : oneR x ws e = wordsR [x] ws e := by simp [wordsR]
theorem numR_one {low : Int} {w : ByteArray} {l : List ByteArray} : numR low (w :: l) 0 = if isNumV w.data.toList low then (w, 0, l) else (⟨#[]⟩, 81, l) := rfl
theorem litR_one {w : ByteArray} {l : List ByteArray} : litR (w :: l) 0 = if litV w.data.toList = 0 then (0, 81, l) else (litV w.data.toList, 0, l) := rfl
/-- One number more, or the fault. -/
theorem idsG_step {ws : List ByteArray} (hne : ws ≠ []) (ids : List ByteArray) {n : ByteArray × Int × List ByteArray} (hn : numR 1 ws 0 = n) :
    (n.2.1 = 0 → idsG ws ids = idsG n.2.2 (ids ++ [n.1])) ∧ (n.2.1 ≠ 0 → (idsG ws ids).2.1 = n.2.1) ∧ n.2.2.length < ws.length := by
  cases ws with
  | nil => exact absurd rfl hne
  | cons w l =>
    rw [numR_one] at hn
    unfold idsG
    by_cases h : isNumV w.data.toList 1 = true
    · rw [if_pos h] at hn ⊢; subst hn; exact ⟨fun _ => by cases l <;> rfl, fun h => absurd rfl h, by simp⟩
    · rw [if_neg h] at hn ⊢; subst hn; exact ⟨fun h => absurd (show (81 : Int) = 0 from h) (by decide), fun _ => rfl, by simp⟩
theorem litsG_step {ws : List ByteArray} (hne : ws ≠ []) (ids : List Int) {n : Int × Int × List ByteArray} (hn : litR ws 0 = n) :
    (n.2.1 = 0 → litsG ws ids = litsG n.2.2 (ids ++ [n.1])) ∧ (n.2.1 ≠ 0 → (litsG ws ids).2.1 = n.2.1) ∧ n.2.2.length < ws.length := by
  cases ws with
  | nil => exact absurd rfl hne
  | cons w l =>
    rw [litR_one] at hn
    unfold litsG
    by_cases h : litV w.data.toList = 0
    · rw [if_pos h] at hn ⊢; subst hn; exact ⟨fun h => absurd (show (81 : Int) = 0 from h) (by decide), fun _ => rfl, by simp⟩
    · rw [if_neg h] at hn ⊢; subst hn; exact ⟨fun _ => by cases l <;> rfl, fun h => absurd rfl h, by simp⟩
theorem LoopR.ids {W : List ByteArray × Int × List ByteArray} {a : List ByteArray} {e : Int} {ws : List ByteArray} (hm : moreR ws e = false) (h1 : e = 0 → idsG ws a = W) (h2 : e ≠ 0 → W.2.1 = e) : LoopR W a e ws := by
  by_cases h : e = 0
  · subst h
    have : ws = [] := by simpa [moreR] using hm
    subst this
    rw [← h1 rfl]; exact ⟨rfl, fun _ => ⟨rfl, rfl⟩⟩
  · exact ⟨(h2 h).symm, fun hh => absurd hh h⟩
theorem LoopR.lits {W : List Int × Int × List ByteArray} {a : List Int} {e : Int} {ws : List ByteArray} (hm : moreR ws e = false) (h1 : e = 0 → litsG ws a = W) (h2 : e ≠ 0 → W.2.1 = e) : LoopR W a e ws := by
  by_cases h : e = 0
  · subst h
    have : ws = [] := by simpa [moreR] using hm
    subst this
    rw [← h1 rfl]; exact ⟨rfl, fun _ => ⟨rfl, rfl⟩⟩
  · exact ⟨(h2 h).symm, fun hh => absurd hh h⟩
theorem polF_suffix : ∀ (f : Nat) (ws : List ByteArray) (ops : List OpV), (polF f ws ops).2.2 <:+ ws
  | 0, ws, ops => List.suffix_refl _
  | f + 1, ws, ops => by
    unfold polF
    split
    · split
      · exact (polF_suffix f _ _).trans (opG_suffix ws)
      · exact opG_suffix ws
    · exact List.suffix_refl _
theorem step_head {S : St} {rb : Nat} {ws0 : List ByteArray} (h : S rb = some (rdO ws0 0)) (hw0 : ∀ w ∈ ws0, w.size ≤ 9000000) (hn0 : ws0.length ≤ 9000000) {w : ByteArray} (hw : w = kHead) :
    Triple P (C G) 86 [.ref rb 0, .str w] S fun o S' => ∃ v' ws' e', o = .ret (stepAV v') ∧ S' = S.upd rb (rdO ws' e') ∧ ws' <:+ ws0 ∧ Agr v' ws' e' (tabR w ws0) := by
  obtain ⟨R, hR⟩ : ∃ R, tabR w ws0 = R := ⟨_, rfl⟩
  rw [hR]
  refine triple_of_awp (hT G) hm Tryz.func86 rfl (by decide +kernel) rfl (by decide +kernel) (by show 2 ≤ _; decide +kernel) rfl ?_
  refine awp_seq2 fun K hK hQ => ?_
  conv => whnf
  intro b2 hb2
  conv => whnf
  refine hK _ _ ?_
  clear hK hQ K
  refine awp_seq2 fun K hK hQ => ?_
  conv => whnf
  intro b3 hb3
  conv => whnf
  refine hK _ _ ?_
  clear hK hQ K
  have hE : EndS S ((S.upd b2 (.obj 54 stepZ)).upd b3 (.obj 54 stepZ)) rb b2 b3 ws0 0 stepZ :=
    ⟨St.up hb3 (St.up hb2 h), St.upd_same _ _ _, St.up hb3 (St.upd_same _ _ _), fun x p _ h2 => St.up hb3 (St.up hb2 h2), (fun e => by rw [e, h] at hb2; cases hb2), (fun e => by rw [e, St.up hb2 h] at hb3; cases hb3), (fun e => by rw [e, St.upd_same] at hb3; cases hb3), hb2, St.no hb3⟩
  change awp _ _ _ _ ((S.upd b2 (.obj 54 stepZ)).upd b3 (.obj 54 stepZ)) _
  generalize (S.upd b2 (.obj 54 stepZ)).upd b3 (.obj 54 stepZ) = F at *
  clear hb2 hb3
  refine awp_seq2 fun K hK hQ => ?_
  conv => whnf
  rw [show decide (w = (⟨#[112, 115, 101, 117, 100, 111, 45, 66, 111, 111, 108, 101, 97, 110]⟩ : ByteArray)) = true from decide_eq_true hw]
  conv => whnf
  unfold tabR tabG at hR
  rw [if_pos hw] at hR
  dsimp only at hR
  refine ⟨_, _, hE.sv, ?_⟩
  conv => whnf
  have hE2 := hE.put [.int .i64 1, .str ByteArray.empty, .nils, .nils, .str ByteArray.empty, .nils, .nils, .int .i64 0, .str ByteArray.empty, .str ByteArray.empty]
  intro bb hbb
  have hE3 := hE2.more hbb (.tip 9 1 3)
  conv => whnf
  refine Triple.use (words1_ok' hE3.rd headWords (by decide) .any) (by exact ⟨rfl, ⟨rfl, rfl⟩, trivial⟩) ?_
  rintro o T3 ⟨rfl, rfl⟩
  have hE4 := hE3.rdr (wordsR headWords ws0 0).1 (wordsR headWords ws0 0).2
  rw [wordsR_exact] at hE4 ⊢
  conv => whnf
  refine hK _ _ ?_
  clear hK hQ K
  conv => whnf
  refine ⟨_, _, hE4.sv, ?_⟩
  conv => whnf
  refine ⟨_, _, hE4.rs, ?_⟩
  conv => whnf
  refine ⟨_, _, St.upd_same _ _ _, ?_⟩
  conv => whnf
  refine ⟨_, _, ⟨{ zeroV with kind := 1 }, _, _, rfl, rfl, exactG_suffix _ _, by rw [← hR]; exact Agr.of rfl (fun _ => ⟨rfl, rfl⟩)⟩, hE4.fin _, ⟨rfl, rfl, rfl, rfl, rfl, rfl, rfl, rfl, rfl, rfl, rfl⟩⟩
theorem step_last {S : St} {rb : Nat} {ws0 : List ByteArray} (h : S rb = some (rdO ws0 0)) (hw0 : ∀ w ∈ ws0, w.size ≤ 9000000) (hn0 : ws0.length ≤ 9000000) {w : ByteArray} (hw : w = kEnd) :
    Triple P (C G) 86 [.ref rb 0, .str w] S fun o S' => ∃ v' ws' e', o = .ret (stepAV v') ∧ S' = S.upd rb (rdO ws' e') ∧ ws' <:+ ws0 ∧ Agr v' ws' e' (tabR w ws0) := by
  obtain ⟨R, hR⟩ : ∃ R, tabR w ws0 = R := ⟨_, rfl⟩
  rw [hR]
  refine triple_of_awp (hT G) hm Tryz.func86 rfl (by decide +kernel) rfl (by decide +kernel) (by show 2 ≤ _; decide +kernel) rfl ?_
  refine awp_seq2 fun K hK hQ => ?_
  conv => whnf
  intro b2 hb2
  conv => whnf
  refine hK _ _ ?_
  clear hK hQ K
  refine awp_seq2 fun K hK hQ => ?_
  conv => whnf
  intro b3 hb3
  conv => whnf
  refine hK _ _ ?_
  clear hK hQ K
  have hE : EndS S ((S.upd b2 (.obj 54 stepZ)).upd b3 (.obj 54 stepZ)) rb b2 b3 ws0 0 stepZ :=
    ⟨St.up hb3 (St.up hb2 h), St.upd_same _ _ _, St.up hb3 (St.upd_same _ _ _), fun x p _ h2 => St.up hb3 (St.up hb2 h2), (fun e => by rw [e, h] at hb2; cases hb2), (fun e => by rw [e, St.up hb2 h] at hb3; cases hb3), (fun e => by rw [e, St.upd_same] at hb3; cases hb3), hb2, St.no hb3⟩
  change awp _ _ _ _ ((S.upd b2 (.obj 54 stepZ)).upd b3 (.obj 54 stepZ)) _
  generalize (S.upd b2 (.obj 54 stepZ)).upd b3 (.obj 54 stepZ) = F at *
  clear hb2 hb3
  refine awp_seq2 fun K hK hQ => ?_
  conv => whnf
  rw [show decide (w = (⟨#[112, 115, 101, 117, 100, 111, 45, 66, 111, 111, 108, 101, 97, 110]⟩ : ByteArray)) = false from decide_eq_false (show ¬ w = kHead from by rw [hw]; decide)]
  conv => whnf
  rw [show decide (w = (⟨#[102]⟩ : ByteArray)) = false from decide_eq_false (show ¬ w = kF from by rw [hw]; decide)]
  conv => whnf
  rw [show decide (w = (⟨#[112, 111, 108]⟩ : ByteArray)) = false from decide_eq_false (show ¬ w = kPol from by rw [hw]; decide)]
  conv => whnf
  rw [show decide (w = (⟨#[114, 117, 112]⟩ : ByteArray)) = false from decide_eq_false (show ¬ w = kRup from by rw [hw]; decide)]
  conv => whnf
  rw [show decide (w = (⟨#[101]⟩ : ByteArray)) = false from decide_eq_false (show ¬ w = kE from by rw [hw]; decide)]
  conv => whnf
  rw [show decide (w = (⟨#[115, 111, 108, 105]⟩ : ByteArray)) = false from decide_eq_false (show ¬ w = kSoli from by rw [hw]; decide)]
  conv => whnf
  rw [show decide (w = (⟨#[115, 111, 108, 120]⟩ : ByteArray)) = false from decide_eq_false (show ¬ w = kSolx from by rw [hw]; decide)]
  conv => whnf
  rw [show decide (w = (⟨#[100, 101, 108]⟩ : ByteArray)) = false from decide_eq_false (show ¬ w = kDel from by rw [hw]; decide)]
  conv => whnf
  rw [show decide (w = (⟨#[111, 117, 116, 112, 117, 116]⟩ : ByteArray)) = false from decide_eq_false (show ¬ w = kOut from by rw [hw]; decide)]
  conv => whnf
  rw [show decide (w = (⟨#[99, 111, 110, 99, 108, 117, 115, 105, 111, 110]⟩ : ByteArray)) = false from decide_eq_false (show ¬ w = kConc from by rw [hw]; decide)]
  conv => whnf
  rw [show decide (w = (⟨#[101, 110, 100]⟩ : ByteArray)) = true from decide_eq_true hw]
  conv => whnf
  unfold tabR tabG at hR
  rw [if_neg (show ¬ w = kHead from by rw [hw]; decide), if_neg (show ¬ w = kF from by rw [hw]; decide), if_neg (show ¬ w = kPol from by rw [hw]; decide), if_neg (show ¬ w = kRup from by rw [hw]; decide), if_neg (show ¬ w = kSoli from by rw [hw]; decide), if_neg (show ¬ w = kSolx from by rw [hw]; decide), if_neg (show ¬ w = kE from by rw [hw]; decide), if_neg (show ¬ w = kDel from by rw [hw]; decide), if_neg (show ¬ w = kStar from by rw [hw]; decide), if_neg (show ¬ w = kOut from by rw [hw]; decide), if_neg (show ¬ w = kConc from by rw [hw]; decide), if_pos hw] at hR
  dsimp only at hR
  refine ⟨_, _, hE.sv, ?_⟩
  conv => whnf
  have hE2 := hE.put [.int .i64 10, .str ByteArray.empty, .nils, .nils, .str ByteArray.empty, .nils, .nils, .int .i64 0, .str ByteArray.empty, .str ByteArray.empty]
  intro bb hbb
  have hE3 := hE2.more hbb (.tip 9 1 2)
  conv => whnf
  refine Triple.use (words1_ok' hE3.rd lastWords (by decide) .any) (by exact ⟨rfl, ⟨rfl, rfl⟩, trivial⟩) ?_
  rintro o T3 ⟨rfl, rfl⟩
  have hE4 := hE3.rdr (wordsR lastWords ws0 0).1 (wordsR lastWords ws0 0).2
  rw [wordsR_exact] at hE4 ⊢
  conv => whnf
  refine hK _ _ ?_
  clear hK hQ K
  conv => whnf
  refine ⟨_, _, hE4.sv, ?_⟩
  conv => whnf
  refine ⟨_, _, hE4.rs, ?_⟩
  conv => whnf
  refine ⟨_, _, St.upd_same _ _ _, ?_⟩
  conv => whnf
  refine ⟨_, _, ⟨{ zeroV with kind := 10 }, _, _, rfl, rfl, exactG_suffix _ _, by rw [← hR]; exact Agr.of rfl (fun _ => ⟨rfl, rfl⟩)⟩, hE4.fin _, ⟨rfl, rfl, rfl, rfl, rfl, rfl, rfl, rfl, rfl, rfl, rfl⟩⟩
theorem step_count {S : St} {rb : Nat} {ws0 : List ByteArray} (h : S rb = some (rdO ws0 0)) (hw0 : ∀ w ∈ ws0, w.size ≤ 9000000) (hn0 : ws0.length ≤ 9000000) {w : ByteArray} (hw : w = kF) :
    Triple P (C G) 86 [.ref rb 0, .str w] S fun o S' => ∃ v' ws' e', o = .ret (stepAV v') ∧ S' = S.upd rb (rdO ws' e') ∧ ws' <:+ ws0 ∧ Agr v' ws' e' (tabR w ws0) := by
  obtain ⟨R, hR⟩ : ∃ R, tabR w ws0 = R := ⟨_, rfl⟩
  rw [hR]
  refine triple_of_awp (hT G) hm Tryz.func86 rfl (by decide +kernel) rfl (by decide +kernel) (by show 2 ≤ _; decide +kernel) rfl ?_
  refine awp_seq2 fun K hK hQ => ?_
  conv => whnf
  intro b2 hb2
  conv => whnf
  refine hK _ _ ?_
  clear hK hQ K
  refine awp_seq2 fun K hK hQ => ?_
  conv => whnf
  intro b3 hb3
  conv => whnf
  refine hK _ _ ?_
  clear hK hQ K
  have hE : EndS S ((S.upd b2 (.obj 54 stepZ)).upd b3 (.obj 54 stepZ)) rb b2 b3 ws0 0 stepZ :=
    ⟨St.up hb3 (St.up hb2 h), St.upd_same _ _ _, St.up hb3 (St.upd_same _ _ _), fun x p _ h2 => St.up hb3 (St.up hb2 h2), (fun e => by rw [e, h] at hb2; cases hb2), (fun e => by rw [e, St.up hb2 h] at hb3; cases hb3), (fun e => by rw [e, St.upd_same] at hb3; cases hb3), hb2, St.no hb3⟩
  change awp _ _ _ _ ((S.upd b2 (.obj 54 stepZ)).upd b3 (.obj 54 stepZ)) _
  generalize (S.upd b2 (.obj 54 stepZ)).upd b3 (.obj 54 stepZ) = F at *
  clear hb2 hb3
  refine awp_seq2 fun K hK hQ => ?_
  conv => whnf
  rw [show decide (w = (⟨#[112, 115, 101, 117, 100, 111, 45, 66, 111, 111, 108, 101, 97, 110]⟩ : ByteArray)) = false from decide_eq_false (show ¬ w = kHead from by rw [hw]; decide)]
  conv => whnf
  rw [show decide (w = (⟨#[102]⟩ : ByteArray)) = true from decide_eq_true hw]
  conv => whnf
  unfold tabR tabG at hR
  rw [if_neg (show ¬ w = kHead from by rw [hw]; decide), if_pos hw] at hR
  dsimp only at hR
  refine ⟨_, _, hE.sv, ?_⟩
  conv => whnf
  have hE2 := hE.put [.int .i64 2, .str ByteArray.empty, .nils, .nils, .str ByteArray.empty, .nils, .nils, .int .i64 0, .str ByteArray.empty, .str ByteArray.empty]
  obtain ⟨n, hn⟩ : ∃ o, numR 0 ws0 0 = o := ⟨_, rfl⟩
  have hm := number1_ok (G := G) hE2.rd hw0 0 (by omega) (by omega)
  rw [hn] at hm
  refine hm.mono ?_
  rintro o T3 ⟨rfl, rfl⟩
  have hE3 := hE2.rdr n.2.2 n.2.1
  conv => whnf
  refine ⟨_, _, hE3.sv, ?_⟩
  conv => whnf
  have hE4 := hE3.put [.int .i64 2, .str n.1, .nils, .nils, .str ByteArray.empty, .nils, .nils, .int .i64 0, .str ByteArray.empty, .str ByteArray.empty]
  refine hK _ _ ?_
  clear hK hQ K
  conv => whnf
  refine ⟨_, _, hE4.sv, ?_⟩
  conv => whnf
  refine ⟨_, _, hE4.rs, ?_⟩
  conv => whnf
  refine ⟨_, _, St.upd_same _ _ _, ?_⟩
  conv => whnf
  refine ⟨_, _, ⟨{ zeroV with kind := 2, num := n.1 }, _, _, rfl, rfl, by rw [← hn]; exact numR_suffix _ _ _, by rw [← hR, ← hn]; exact Agr.of rfl (fun _ => ⟨rfl, rfl⟩)⟩, hE4.fin _, ⟨rfl, rfl, rfl, rfl, rfl, rfl, rfl, rfl, rfl, rfl, rfl⟩⟩
theorem step_pol {S : St} {rb : Nat} {ws0 : List ByteArray} (h : S rb = some (rdO ws0 0)) (hw0 : ∀ w ∈ ws0, w.size ≤ 9000000) (hn0 : ws0.length ≤ 9000000) {w : ByteArray} (hw : w = kPol) :
    Triple P (C G) 86 [.ref rb 0, .str w] S fun o S' => ∃ v' ws' e', o = .ret (stepAV v') ∧ S' = S.upd rb (rdO ws' e') ∧ ws' <:+ ws0 ∧ Agr v' ws' e' (tabR w ws0) := by
  obtain ⟨R, hR⟩ : ∃ R, tabR w ws0 = R := ⟨_, rfl⟩
  rw [hR]
  refine triple_of_awp (hT G) hm Tryz.func86 rfl (by decide +kernel) rfl (by decide +kernel) (by show 2 ≤ _; decide +kernel) rfl ?_
  refine awp_seq2 fun K hK hQ => ?_
  conv => whnf
  intro b2 hb2
  conv => whnf
  refine hK _ _ ?_
  clear hK hQ K
  refine awp_seq2 fun K hK hQ => ?_
  conv => whnf
  intro b3 hb3
  conv => whnf
  refine hK _ _ ?_
  clear hK hQ K
  have hE : EndS S ((S.upd b2 (.obj 54 stepZ)).upd b3 (.obj 54 stepZ)) rb b2 b3 ws0 0 stepZ :=
    ⟨St.up hb3 (St.up hb2 h), St.upd_same _ _ _, St.up hb3 (St.upd_same _ _ _), fun x p _ h2 => St.up hb3 (St.up hb2 h2), (fun e => by rw [e, h] at hb2; cases hb2), (fun e => by rw [e, St.up hb2 h] at hb3; cases hb3), (fun e => by rw [e, St.upd_same] at hb3; cases hb3), hb2, St.no hb3⟩
  change awp _ _ _ _ ((S.upd b2 (.obj 54 stepZ)).upd b3 (.obj 54 stepZ)) _
  generalize (S.upd b2 (.obj 54 stepZ)).upd b3 (.obj 54 stepZ) = F at *
  clear hb2 hb3
  refine awp_seq2 fun K hK hQ => ?_
  conv => whnf
  rw [show decide (w = (⟨#[112, 115, 101, 117, 100, 111, 45, 66, 111, 111, 108, 101, 97, 110]⟩ : ByteArray)) = false from decide_eq_false (show ¬ w = kHead from by rw [hw]; decide)]
  conv => whnf
  rw [show decide (w = (⟨#[102]⟩ : ByteArray)) = false from decide_eq_false (show ¬ w = kF from by rw [hw]; decide)]
  conv => whnf
  rw [show decide (w = (⟨#[112, 111, 108]⟩ : ByteArray)) = true from decide_eq_true hw]
  conv => whnf
  unfold tabR tabG at hR
  rw [if_neg (show ¬ w = kHead from by rw [hw]; decide), if_neg (show ¬ w = kF from by rw [hw]; decide), if_pos hw] at hR
  dsimp only at hR
  refine ⟨_, _, hE.sv, ?_⟩
  conv => whnf
  have hE2 := hE.put [.int .i64 3, .str ByteArray.empty, .nils, .nils, .str ByteArray.empty, .nils, .nils, .int .i64 0, .str ByteArray.empty, .str ByteArray.empty]
  have hm := ops_ok1 (G := G) hE2.rd hw0 hn0
  obtain ⟨n, hn⟩ : ∃ o, polF (ws0.length + 2) ws0 [] = o := ⟨_, rfl⟩
  rw [hn] at hm
  refine hm.mono ?_
  rintro o T3 ⟨rfl, rfl⟩
  have hE3 := hE2.rdr n.2.2 n.2.1
  conv => whnf
  refine ⟨_, _, hE3.sv, ?_⟩
  conv => whnf
  have hE4 := hE3.put [.int .i64 3, .str ByteArray.empty, .sl .any 3 (rowsO n.1), .nils, .str ByteArray.empty, .nils, .nils, .int .i64 0, .str ByteArray.empty, .str ByteArray.empty]
  refine hK _ _ ?_
  clear hK hQ K
  conv => whnf
  refine ⟨_, _, hE4.sv, ?_⟩
  conv => whnf
  refine ⟨_, _, hE4.rs, ?_⟩
  conv => whnf
  refine ⟨_, _, St.upd_same _ _ _, ?_⟩
  conv => whnf
  refine ⟨_, _, ⟨{ zeroV with kind := 3, ops := n.1 }, _, _, rfl, rfl, by rw [← hn]; exact polF_suffix _ _ _, by rw [← hR, ← hn]; exact Agr.of rfl (fun _ => ⟨rfl, rfl⟩)⟩, hE4.fin _, ⟨rfl, rfl, ⟨rfl, rfl⟩, rfl, rfl, rfl, rfl, rfl, rfl, rfl, rfl⟩⟩
theorem step_output {S : St} {rb : Nat} {ws0 : List ByteArray} (h : S rb = some (rdO ws0 0)) (hw0 : ∀ w ∈ ws0, w.size ≤ 9000000) (hn0 : ws0.length ≤ 9000000) {w : ByteArray} (hw : w = kOut) :
    Triple P (C G) 86 [.ref rb 0, .str w] S fun o S' => ∃ v' ws' e', o = .ret (stepAV v') ∧ S' = S.upd rb (rdO ws' e') ∧ ws' <:+ ws0 ∧ Agr v' ws' e' (tabR w ws0) := by
  obtain ⟨R, hR⟩ : ∃ R, tabR w ws0 = R := ⟨_, rfl⟩
  rw [hR]
  refine triple_of_awp (hT G) hm Tryz.func86 rfl (by decide +kernel) rfl (by decide +kernel) (by show 2 ≤ _; decide +kernel) rfl ?_
  refine awp_seq2 fun K hK hQ => ?_
  conv => whnf
  intro b2 hb2
  conv => whnf
  refine hK _ _ ?_
  clear hK hQ K
  refine awp_seq2 fun K hK hQ => ?_
  conv => whnf
  intro b3 hb3
  conv => whnf
  refine hK _ _ ?_
  clear hK hQ K
  have hE : EndS S ((S.upd b2 (.obj 54 stepZ)).upd b3 (.obj 54 stepZ)) rb b2 b3 ws0 0 stepZ :=
    ⟨St.up hb3 (St.up hb2 h), St.upd_same _ _ _, St.up hb3 (St.upd_same _ _ _), fun x p _ h2 => St.up hb3 (St.up hb2 h2), (fun e => by rw [e, h] at hb2; cases hb2), (fun e => by rw [e, St.up hb2 h] at hb3; cases hb3), (fun e => by rw [e, St.upd_same] at hb3; cases hb3), hb2, St.no hb3⟩
  change awp _ _ _ _ ((S.upd b2 (.obj 54 stepZ)).upd b3 (.obj 54 stepZ)) _
  generalize (S.upd b2 (.obj 54 stepZ)).upd b3 (.obj 54 stepZ) = F at *
  clear hb2 hb3
  refine awp_seq2 fun K hK hQ => ?_
  conv => whnf
  rw [show decide (w = (⟨#[112, 115, 101, 117, 100, 111, 45, 66, 111, 111, 108, 101, 97, 110]⟩ : ByteArray)) = false from decide_eq_false (show ¬ w = kHead from by rw [hw]; decide)]
  conv => whnf
  rw [show decide (w = (⟨#[102]⟩ : ByteArray)) = false from decide_eq_false (show ¬ w = kF from by rw [hw]; decide)]
  conv => whnf
  rw [show decide (w = (⟨#[112, 111, 108]⟩ : ByteArray)) = false from decide_eq_false (show ¬ w = kPol from by rw [hw]; decide)]
  conv => whnf
  rw [show decide (w = (⟨#[114, 117, 112]⟩ : ByteArray)) = false from decide_eq_false (show ¬ w = kRup from by rw [hw]; decide)]
  conv => whnf
  rw [show decide (w = (⟨#[101]⟩ : ByteArray)) = false from decide_eq_false (show ¬ w = kE from by rw [hw]; decide)]
  conv => whnf
  rw [show decide (w = (⟨#[115, 111, 108, 105]⟩ : ByteArray)) = false from decide_eq_false (show ¬ w = kSoli from by rw [hw]; decide)]
  conv => whnf
  rw [show decide (w = (⟨#[115, 111, 108, 120]⟩ : ByteArray)) = false from decide_eq_false (show ¬ w = kSolx from by rw [hw]; decide)]
  conv => whnf
  rw [show decide (w = (⟨#[100, 101, 108]⟩ : ByteArray)) = false from decide_eq_false (show ¬ w = kDel from by rw [hw]; decide)]
  conv => whnf
  rw [show decide (w = (⟨#[111, 117, 116, 112, 117, 116]⟩ : ByteArray)) = true from decide_eq_true hw]
  conv => whnf
  unfold tabR tabG at hR
  rw [if_neg (show ¬ w = kHead from by rw [hw]; decide), if_neg (show ¬ w = kF from by rw [hw]; decide), if_neg (show ¬ w = kPol from by rw [hw]; decide), if_neg (show ¬ w = kRup from by rw [hw]; decide), if_neg (show ¬ w = kSoli from by rw [hw]; decide), if_neg (show ¬ w = kSolx from by rw [hw]; decide), if_neg (show ¬ w = kE from by rw [hw]; decide), if_neg (show ¬ w = kDel from by rw [hw]; decide), if_neg (show ¬ w = kStar from by rw [hw]; decide), if_pos hw] at hR
  dsimp only at hR
  refine ⟨_, _, hE.sv, ?_⟩
  conv => whnf
  have hE2 := hE.put [.int .i64 8, .str ByteArray.empty, .nils, .nils, .str ByteArray.empty, .nils, .nils, .int .i64 0, .str ByteArray.empty, .str ByteArray.empty]
  have hm := one_ok (G := G) hE2.rd noneS
  rw [one_wordsR, show [noneS] = outputWords from rfl, wordsR_exact] at hm
  refine hm.mono ?_
  rintro o T3 ⟨rfl, rfl⟩
  have hE3 := hE2.rdr (exactG ws0 outputWords).1 (exactG ws0 outputWords).2
  conv => whnf
  refine hK _ _ ?_
  clear hK hQ K
  conv => whnf
  refine ⟨_, _, hE3.sv, ?_⟩
  conv => whnf
  refine ⟨_, _, hE3.rs, ?_⟩
  conv => whnf
  refine ⟨_, _, St.upd_same _ _ _, ?_⟩
  conv => whnf
  refine ⟨_, _, ⟨{ zeroV with kind := 8 }, _, _, rfl, rfl, exactG_suffix _ _, by rw [← hR]; exact Agr.of rfl (fun _ => ⟨rfl, rfl⟩)⟩, hE3.fin _, ⟨rfl, rfl, rfl, rfl, rfl, rfl, rfl, rfl, rfl, rfl, rfl⟩⟩
end Go.Proofs.YtcpdgnkhkdddhaaGreatDoor.Aw

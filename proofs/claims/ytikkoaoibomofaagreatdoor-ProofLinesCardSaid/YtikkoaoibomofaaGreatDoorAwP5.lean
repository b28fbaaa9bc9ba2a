/-
  The reference's Lines.
-/
import Derived.Test.YtikkoaoibomofaaGreatDoorAwP2
set_option maxRecDepth 100000
set_option linter.unusedVariables false
namespace Go.Proofs.YtikkoaoibomofaaGreatDoor.Aw
open Go Go.RowKit
variable {G : Nat → Option (List AV)}

theorem AccOk.other {S S₁ : St} {e : TypeId} {k b n : Nat} (h : AccOk S S₁ e k b n) {b0 : Nat} (hb : S₁ b0 = none) (o : Own) : AccOk S (S₁.upd b0 o) e k b n :=
  ⟨St.le_upd' h.le hb o, fun hn => by rw [St.upd_ne _ _ _ _ (fun e => by rw [← e, h.tip hn] at hb; cases hb)]; exact h.tip hn, h.new⟩
def refLinesGo (s : ByteArray) (i fr : Nat) (acc : List ByteArray) : List ByteArray :=
  if h : i < s.size then
    if byteAt s i = 10 then refLinesGo s (i+1) (i+1) (acc ++ [s.extract fr i]) else refLinesGo s (i+1) fr acc
  else if fr < s.size then acc ++ [s.extract fr s.size] else acc
termination_by s.size - i

set_option maxHeartbeats 1000000 in
theorem refLines_ok (s : ByteArray) (hs : s.size ≤ 100000000) (S : St) :
    Triple P (C G) 4 [.str s] S fun o S' => o = .ret (.sl .any 1 (rowsS (refLinesGo s 0 0 []))) ∧ S' = S := by
  refine triple_of_awp (hT G) hm Tryz.func4 rfl (by decide +kernel) rfl (by decide +kernel) (by show 1 ≤ _; decide +kernel) rfl ?_
  conv => whnf
  refine ⟨⟨Nat × Nat × List ByteArray × Nat, fun (i, fr, acc, b) => [(0, .str s), (3, .sl (.acc b) 1 (rowsS acc)), (4, .int .i64 (fr : Int)), (5, .int .i64 (i : Int))],
    fun (i, fr, acc, b) S' => AccOk S S' 9 1 b acc.length ∧ i ≤ s.size ∧ fr ≤ i ∧ acc.length ≤ i ∧ refLinesGo s i fr acc = refLinesGo s 0 0 [],
    fun (i, _, _, _) => s.size - i⟩, ⟨(0, 0, [], 0), ⟨rfl, rfl, rfl, rfl, trivial⟩, S, St.leW_refl _, ?_⟩, ?_⟩
  · exact ⟨AccOk.init .., by omega, by omega, by simp, rfl⟩
  · rintro ⟨(i : Nat), (fr : Nat), (acc : List ByteArray), (b : Nat)⟩ S₁ ⟨h1, h3, h4, h5, h6⟩
    have w1 : IntKind.i64.wrap ((i : Int) + 1) = ((i + 1 : Nat) : Int) := wrap_nat (by omega)
    conv => whnf
    refine split_of (fun hlt => ?_) (fun hlt => ?_)
    · have hlt : i < s.size := by simpa using hlt
      conv => whnf
      refine ⟨by omega, ?_⟩
      conv => whnf
      refine split_of (fun hc => ?_) (fun hc => ?_)
      · have hc : byteAt s i = 10 := by simpa using hc
        conv => whnf
        refine ⟨by omega, ?_⟩
        conv => whnf
        intro b0 hb0
        conv => whnf
        have h2 := h1.other hb0 (.tip 9 1 1)
        refine ⟨⟨fun h => by have := h2.tip (List.length_pos_iff.2 (fun e => h (by rw [e]; rfl))); rw [show (rowsS acc).length = acc.length from by simp [rowsS]]; exact this, by show _ * 16 ≤ _; simp [rowsS]; omega⟩, ?_⟩
        conv => whnf
        intro S₂ k1 k2 b' hb'
        conv => whnf
        have e1 : rowsS acc ++ [[AV.str (s.extract fr i)]] = rowsS (acc ++ [s.extract fr i]) := by simp [rowsS]
        refine ⟨(i + 1, i + 1, acc ++ [s.extract fr i], b'), ⟨rfl, congrArg _ e1, congrArg _ w1, congrArg _ w1, trivial⟩, ⟨_, St.leW_refl _, h2.push (es := rowsS acc) (by simp [rowsS]) k1 k2 hb' (by simp [rowsS]), by omega, by omega, by simp; omega, ?_⟩, by show s.size - (i + 1) < s.size - i; omega⟩
        · rw [← h6]; conv => rhs; unfold refLinesGo
          rw [dif_pos hlt, if_pos hc]
      · have hc : ¬ byteAt s i = 10 := by simpa using hc
        conv => whnf
        refine ⟨(i + 1, fr, acc, b), ⟨rfl, rfl, rfl, congrArg _ w1, trivial⟩, ⟨_, St.leW_refl _, h1, by omega, by omega, by omega, ?_⟩, by show s.size - (i + 1) < s.size - i; omega⟩
        rw [← h6]; conv => rhs; unfold refLinesGo
        rw [dif_pos hlt, if_neg hc]
    · have hlt : ¬ i < s.size := by simpa using hlt
      obtain rfl : i = s.size := by omega
      conv => whnf
      refine split_of (fun hlt2 => ?_) (fun hlt2 => ?_)
      · have hlt2 : fr < s.size := by simpa using hlt2
        have h6' : refLinesGo s 0 0 [] = acc ++ [s.extract fr s.size] := by
          rw [← h6]; unfold refLinesGo; rw [dif_neg hlt, if_pos hlt2]
        conv => whnf
        refine ⟨by omega, ?_⟩
        conv => whnf
        intro b0 hb0
        conv => whnf
        have h2 := h1.other hb0 (.tip 9 1 1)
        refine ⟨⟨fun h => by have := h2.tip (List.length_pos_iff.2 (fun e => h (by rw [e]; rfl))); rw [show (rowsS acc).length = acc.length from by simp [rowsS]]; exact this, by show _ * 16 ≤ _; simp [rowsS]; omega⟩, ?_⟩
        conv => whnf
        intro S₂ k1 k2 b' hb'
        conv => whnf
        rw [h6']
        refine ⟨_, S, ⟨rfl, rfl⟩, ?_, rfl, ?_⟩
        · exact (h2.push (es := rowsS acc) (by simp [rowsS]) k1 k2 hb' rfl).le
        · simp [rowsS]
      · have hlt2 : ¬ fr < s.size := by simpa using hlt2
        have h6' : refLinesGo s 0 0 [] = acc := by
          rw [← h6]; unfold refLinesGo; rw [dif_neg hlt, if_neg hlt2]
        conv => whnf
        rw [h6']
        exact ⟨_, S, ⟨rfl, rfl⟩, h1.le, rfl, rfl⟩
end Go.Proofs.YtikkoaoibomofaaGreatDoor.Aw

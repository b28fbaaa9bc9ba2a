/-
  The law ProofLines, walked.
-/
import Derived.Test.YtikkoaoibomofaaGreatDoorAwB10
import Derived.Test.YtikkoaoibomofaaGreatDoorAwQ
import Derived.Test.YtikkoaoibomofaaGreatDoorAwP7
set_option maxRecDepth 100000
set_option linter.unusedVariables false
set_option linter.unusedSimpArgs false
namespace Go.Proofs.YtikkoaoibomofaaGreatDoor.Aw
open Go Go.RowKit
variable {G : Nat → Option (List AV)}
theorem linesOf_len (s : ByteArray) : (linesOf s).length ≤ s.size + 1 := by
  have h := splitS_le s sepNL (by decide)
  unfold linesOf
  simp only
  split
  · rw [List.length_take]; omega
  · exact h
set_option maxHeartbeats 2000000 in
theorem lawLines_ok {m : Int} (hG : G10 G) (hG1 : G 0 = some [.int .i64 m]) (s : ByteArray) (S : St) :
    Triple P (C G) 3 [.str s] S fun o S' => o = .ret (.bool true) ∧ S' = S := by
  refine triple_of_awp (hT G) hm Tryz.func3 rfl (by decide +kernel) rfl (by decide +kernel) (by show 1 ≤ _; decide +kernel) rfl ?_
  refine awp_seq2 fun K hK hQ => ?_
  conv => whnf
  refine hK _ _ ?_
  clear hK hQ K
  refine awp_seq2 fun K hK hQ => ?_
  conv => whnf
  cases hdec : decide ((s.size : Int) > 400000) with
  | true =>
    conv => whnf
    refine hQ _ _ _ (by simp) ?_
    conv => whnf
    exact ⟨_, _, ⟨rfl, rfl⟩, St.le_refl _, AV.leS_refl _ _ _⟩
  | false =>
    have hs : s.size < 400001 := by have := of_decide_eq_false hdec; omega
    have hll := linesOf_len s
    conv => whnf
    refine hK _ _ ?_
    clear hK hQ K
    refine awp_seq2 fun K hK hQ => ?_
    conv => whnf
    intro bk hbk
    rw [forceL_eq]
    conv => whnf
    refine hK _ _ ?_
    clear hK hQ K
    refine awp_seq2 fun K hK hQ => ?_
    conv => whnf
    refine (refLines_ok s (by omega) _).mono ?_
    rintro o S' ⟨rfl, rfl⟩
    rw [← lines_law]
    conv => whnf
    refine hK _ _ ?_
    clear hK hQ K
    refine awp_seq2 fun K hK hQ => ?_
    conv => whnf
    have hbk0 : S bk = none := hbk
    have z0 : BkS S strsT bk (BookA.txt false 0 0 KL.empty.kind).cells KL.empty [] (S.upd bk (.obj bookT (BookA.txt false 0 0 KL.empty.kind).cells)) := ⟨⟨by simp [KL.fp, AccL.fp, AccL.empty, KL.empty], by simpa [KL.fp, AccL.fp, AccL.empty, KL.empty] using hbk0⟩, rfl⟩
    have tz : TxtS S bk false 0 0 KL.empty [] [] [] (s.size + 1) _ := ⟨z0, ⟨rfl, rfl, rfl, rfl, rfl, rfl, rfl, rfl⟩, fun o ho => by simp at ho, fun w hw => by simp at hw, by simp, fun o ho => by simp at ho⟩
    have hl := (BookA.txt false 0 0 .zero).leL_texts KL.zero_le
    have hw : St.leW (S.upd bk (.obj bookT (BookA.txt false 0 0 KL.empty.kind).cells)) (S.upd bk (.obj bookT (BookA.txt false 0 0 .zero).cells)) := by
      have := St.leW_upd (St.upd_same S bk (.obj bookT (BookA.txt false 0 0 .zero).cells)) hl
      rwa [St.upd_upd] at this
    refine ⟨⟨Nat, fun i => [(0, .str s), (3, .ref bk 0), (4, .sl .any 1 (rowsS (linesOf s))), (5, .int .i64 (i : Int))],
      fun i S' => i ≤ 2 ∧ ∃ turn k W O rest, TxtS S bk false turn 0 k W O rest (s.size + 1) S' ∧ O.length + 2 * W.length ≤ 2 * i, fun i => 2 - i⟩,
      ⟨0, ⟨rfl, rfl, ⟨rfl, rfl⟩, rfl, trivial⟩, S.upd bk (.obj bookT (BookA.txt false 0 0 KL.empty.kind).cells), hw, by omega, 0, KL.empty, [], [], [], tz, by simp⟩, ?_⟩
    rintro (i : Nat) S₁ ⟨hi2, turn, k, W, O, rest, ht, hcnt⟩
    conv => whnf
    refine split_of (fun hlt => ?_) (fun hlt => ?_)
    · have hlt : i < 2 := by have := of_decide_eq_true hlt; omega
      have w1 : IntKind.i64.wrap ((i : Int) + 1) = ((i + 1 : Nat) : Int) := wrap_nat (by omega)
      conv => whnf
      refine (Triple.thaw (lines_own hG1 s hs St.emp) S₁).mono ?_
      rintro o S' ⟨b, cap, junk, hb, rfl, rfl, hc1, hc2, hc3⟩
      conv => whnf
      intro hlen
      conv => whnf
      refine split_of (fun h => by simp [rowsS] at h) (fun _ => ?_)
      conv => whnf
      have hbs := ht.st.new hb (.obj strT ((linesOf s).map AV.str ++ junk))
      refine ⟨⟨Nat, fun j => [(0, .str s), (3, .ref bk 0), (4, .sl .any 1 (rowsS (linesOf s))), (5, .int .i64 (i : Int)), (6, .arr b 0 (linesOf s).length cap), (7, .int .i64 (j : Int))],
        fun j S' => S' = S₁.upd b (.obj strT ((linesOf s).map AV.str ++ junk)) ∧ j ≤ (linesOf s).length, fun j => (linesOf s).length - j⟩,
        ⟨0, ⟨rfl, rfl, ⟨rfl, rfl⟩, rfl, rfl, rfl, trivial⟩, _, St.leW_refl _, rfl, by omega⟩, ?_⟩
      rintro (j : Nat) S₂ ⟨rfl, hj⟩
      conv => whnf
      refine split_of (fun hlt2 => ?_) (fun hlt2 => ?_)
      · have hlt2 : j < (linesOf s).length := by have := of_decide_eq_true hlt2; omega
        have w2 : IntKind.i64.wrap ((j : Int) + 1) = ((j + 1 : Nat) : Int) := wrap_nat (by omega)
        conv => whnf
        refine ⟨[], (.free 0 (.free 1 (.free 2 (.free 3 (.free 4 (.free 5 (.free 6 (.free 7 (.free 8 .done))))))))), _, by decide +kernel, ?_, fun _ _ h => ⟨_, .inl rfl, h⟩⟩
        conv => whnf
        refine ⟨⟨by omega, by omega⟩, ?_⟩
        conv => whnf
        refine ⟨_, _, St.upd_same _ _ _, aPart_cell rfl (x := .str (linesOf s)[j]) (by show (List.map AV.str (linesOf s) ++ junk)[0 + (j : Int).toNat * 1]? = _; simp [List.getElem?_append_left, hlt2]) ?_⟩
        conv => whnf
        refine ⟨[.str (linesOf s)[j]], ⟨by omega, by simp [rowsS, hlt2]⟩, ?_⟩
        conv => whnf
        refine split_of (fun h => by simp at h) (fun _ => ?_)
        conv => whnf
        exact ⟨j + 1, ⟨rfl, rfl, ⟨rfl, rfl⟩, rfl, rfl, congrArg _ w2, trivial⟩, ⟨_, St.leW_refl _, rfl, by omega⟩, by show (linesOf s).length - (j + 1) < (linesOf s).length - j; omega⟩
      · conv => whnf
        have hnew : ∀ o, (b, o) ∉ rest := fun o ho => by rw [ht.st.get ho] at hb; cases hb
        have t2 : TxtS S bk false turn 0 k W O _ (s.size + 1) _ := ⟨hbs, ht.data, ht.sees.mono (by simp +contextual), fun w hw => ⟨List.mem_append_left _ (ht.todo w hw).1, (ht.todo w hw).2⟩, ht.nd, ht.most⟩
        refine (Texts_ok hG t2 ⟨b, cap, linesOf s, junk⟩ (by simp [ItT.own]) ⟨hc1, hc2, hc3⟩ hll (fun o ho e => ?_) (fun w hw e => ?_) _ (by omega) (by omega)).mono ?_
        · obtain ⟨c, q1, _⟩ := ht.sees o ho
          exact hnew _ (by rw [show o.b = b from e] at q1; exact q1)
        · have q1 := (ht.todo w hw).1
          exact hnew _ (by rw [show w.it.b = b from e] at q1; exact q1)
        rintro o S' ⟨rfl, k', W', O', rest', t3, hlen3⟩
        conv => whnf
        exact ⟨i + 1, ⟨rfl, rfl, ⟨rfl, rfl⟩, congrArg _ w1, trivial⟩, ⟨_, St.leW_refl _, by omega, _, k', W', O', rest', t3, by omega⟩, by show 2 - (i + 1) < 2 - i; omega⟩
    · conv => whnf
      refine hK _ _ ?_
      clear hK hQ K
      conv => whnf
      refine (Hold_ok ht (by omega) (by omega)).mono ?_
      rintro o S' ⟨rfl, hS'⟩
      subst S'
      conv => whnf
      refine ⟨_, S, ⟨rfl, rfl⟩, ?_, AV.leS_refl _ _ _⟩
      rw [ht.st.eq]
      exact ov_le S ht.st.ok
end Go.Proofs.YtikkoaoibomofaaGreatDoor.Aw

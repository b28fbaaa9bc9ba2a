/-
  Package hallmarkref8: the reader's step, one theorem for each first word (printed by gen_rb4.py).
  Package hallmarkref8: the reader's step, one theorem for each first word (printed by gen_rb4.py).
  errors.As at a target **api.Fault: turned from the worked proof of the toy 'toyas'.
  errors.As in the abstract walk's words; proof.Parse.
  Package hallmarkref8: the reader's step; Parse (printed by gen_rb7.py).
  The reference's Lines.
  The plain law of Lines: cutting at every end of line is what the reference does.
-/
import Derived.Test.YtcpdgnkhkdddhaaGreatDoorWgh14
import Derived.WalkKit
import Derived.LaidEql
import Derived.Stop.Asserts
import Derived.RowKitTokens
import Derived.Test.YtcpdgnkhkdddhaaGreatDoorWgh8
import Derived.Lib.SplitLaws
set_option maxRecDepth 100000
set_option linter.unusedVariables false
set_option linter.unusedSimpArgs false
namespace Go.Proofs.YtcpdgnkhkdddhaaGreatDoor.Aw
open Go Go.RowKit
variable {G : Nat → Option (List AV)}

theorem step_solx {S : St} {rb : Nat} {ws0 : List ByteArray} (h : S rb = some (rdO ws0 0)) (hw0 : ∀ w ∈ ws0, w.size ≤ 9000000) (hn0 : ws0.length ≤ 9000000) {w : ByteArray} (hw : w = kSolx) :
    Triple P (C G) 86 [.ref rb 0, .str w] S fun o S' => ∃ v' ws' e', o = .ret (stepAV v') ∧ S' = S.upd rb (rdO ws' e') ∧ ws' <:+ ws0 ∧ Agr v' ws' e' (tabR w ws0) := by
  obtain ⟨R, hR⟩ : ∃ R, tabR w ws0 = R := ⟨_, rfl⟩
  rw [hR]
  refine triple_of_awp (hT G) hm Tryz.func86 rfl (by decide +kernel) rfl (by decide +kernel) (by show 2 ≤ _; decide +kernel) rfl ?_
  refine awp_seq2 fun K hK hQ => ?_
  conv => whnf
  intro b2 hb2
  conv => whnf
  refine hK _ _ ?_
  clear hK hQ K
  refine awp_seq2 fun K hK hQ => ?_
  conv => whnf
  intro b3 hb3
  conv => whnf
  refine hK _ _ ?_
  clear hK hQ K
  have hE : EndS S ((S.upd b2 (.obj 54 stepZ)).upd b3 (.obj 54 stepZ)) rb b2 b3 ws0 0 stepZ :=
    ⟨St.up hb3 (St.up hb2 h), St.upd_same _ _ _, St.up hb3 (St.upd_same _ _ _), fun x p _ h2 => St.up hb3 (St.up hb2 h2), (fun e => by rw [e, h] at hb2; cases hb2), (fun e => by rw [e, St.up hb2 h] at hb3; cases hb3), (fun e => by rw [e, St.upd_same] at hb3; cases hb3), hb2, St.no hb3⟩
  change awp _ _ _ _ ((S.upd b2 (.obj 54 stepZ)).upd b3 (.obj 54 stepZ)) _
  generalize (S.upd b2 (.obj 54 stepZ)).upd b3 (.obj 54 stepZ) = F at *
  clear hb2 hb3
  refine awp_seq2 fun K hK hQ => ?_
  conv => whnf
  rw [show decide (w = (⟨#[112, 115, 101, 117, 100, 111, 45, 66, 111, 111, 108, 101, 97, 110]⟩ : ByteArray)) = false from decide_eq_false (show ¬ w = kHead from by rw [hw]; decide)]
  conv => whnf
  rw [show decide (w = (⟨#[102]⟩ : ByteArray)) = false from decide_eq_false (show ¬ w = kF from by rw [hw]; decide)]
  conv => whnf
  rw [show decide (w = (⟨#[112, 111, 108]⟩ : ByteArray)) = false from decide_eq_false (show ¬ w = kPol from by rw [hw]; decide)]
  conv => whnf
  rw [show decide (w = (⟨#[114, 117, 112]⟩ : ByteArray)) = false from decide_eq_false (show ¬ w = kRup from by rw [hw]; decide)]
  conv => whnf
  rw [show decide (w = (⟨#[101]⟩ : ByteArray)) = false from decide_eq_false (show ¬ w = kE from by rw [hw]; decide)]
  conv => whnf
  rw [show decide (w = (⟨#[115, 111, 108, 105]⟩ : ByteArray)) = false from decide_eq_false (show ¬ w = kSoli from by rw [hw]; decide)]
  conv => whnf
  rw [show decide (w = (⟨#[115, 111, 108, 120]⟩ : ByteArray)) = true from decide_eq_true hw]
  conv => whnf
  unfold tabR tabG at hR
  rw [if_neg (show ¬ w = kHead from by rw [hw]; decide), if_neg (show ¬ w = kF from by rw [hw]; decide), if_neg (show ¬ w = kPol from by rw [hw]; decide), if_neg (show ¬ w = kRup from by rw [hw]; decide), if_neg (show ¬ w = kSoli from by rw [hw]; decide), if_pos hw] at hR
  dsimp only at hR
  refine ⟨_, _, hE.sv, ?_⟩
  conv => whnf
  have hE2 := hE.put [.int .i64 5, .str ByteArray.empty, .nils, .nils, .str ByteArray.empty, .nils, .nils, .int .i64 0, .str ByteArray.empty, .str ByteArray.empty]
  rw [show decide (w = (⟨#[115, 111, 108, 120]⟩ : ByteArray)) = true from decide_eq_true hw]
  conv => whnf
  refine ⟨_, _, hE2.sv, ?_⟩
  conv => whnf
  have hE3 := hE2.put [.int .i64 11, .str ByteArray.empty, .nils, .nils, .str ByteArray.empty, .nils, .nils, .int .i64 0, .str ByteArray.empty, .str ByteArray.empty]
  obtain ⟨W, hW⟩ : ∃ W, litsG ws0 [] = W := ⟨_, rfl⟩
  generalize hBF : (F.upd b3 (.obj 54 [.int .i64 5, .str ByteArray.empty, .nils, .nils, .str ByteArray.empty, .nils, .nils, .int .i64 0, .str ByteArray.empty, .str ByteArray.empty])).upd b3 (.obj 54 [.int .i64 11, .str ByteArray.empty, .nils, .nils, .str ByteArray.empty, .nils, .nils, .int .i64 0, .str ByteArray.empty, .str ByteArray.empty]) = B at hE3 ⊢
  clear hBF
  have n3 := hE3.n3
  refine ⟨⟨List ByteArray × Int × List Int × Nat, fun x => [(0, .ref rb 0), (4, .ref b2 0), (5, .ref b3 0)],
    fun x S1 => AccOk ((B.upd rb (rdO x.1 x.2.1)).upd b3 (.obj 54 [.int .i64 11, .str ByteArray.empty, .nils, .nils, .str ByteArray.empty, .sl (.acc x.2.2.2) 1 (rowsI x.2.2.1), .nils, .int .i64 0, .str ByteArray.empty, .str ByteArray.empty])) S1 3 1 x.2.2.2 x.2.2.1.length ∧ x.2.2.1.length + x.1.length ≤ 9000001 ∧ x.1 <:+ ws0 ∧
      (x.2.1 = 0 → litsG x.1 x.2.2.1 = W) ∧ (x.2.1 ≠ 0 → W.2.1 = x.2.1), fun x => x.1.length⟩, ⟨(ws0, 0, [], 0), ⟨rfl, rfl, rfl, trivial⟩, B.upd b3 (.obj 54 [.int .i64 11, .str ByteArray.empty, .nils, .nils, .str ByteArray.empty, .sl (.acc 0) 1 (rowsI []), .nils, .int .i64 0, .str ByteArray.empty, .str ByteArray.empty]), St.leW_upd hE3.sv ⟨rfl, rfl, rfl, rfl, rfl, rfl, rfl, rfl, rfl, rfl, trivial⟩, by rw [St.upd_id hE3.rd]; exact AccOk.init _ _ _ _, by dsimp only; simp <;> omega, List.suffix_refl _, fun _ => hW, fun h => absurd rfl h⟩, ?_⟩
  rintro ⟨ws, e, acc, ba⟩ S1 ⟨g1, g2, g3, g4, g5⟩
  dsimp only at g1 g2 g3 g4 g5
  have hB1 := ((hE3.rdr ws e).put [.int .i64 11, .str ByteArray.empty, .nils, .nils, .str ByteArray.empty, .sl (.acc ba) 1 (rowsI acc), .nils, .int .i64 0, .str ByteArray.empty, .str ByteArray.empty]).le g1.le
  have hsw : ∀ w ∈ ws, w.size ≤ 9000000 := fun w hw => hw0 w (g3.mem hw)
  have hmo := more_ok (G := G) hB1.rd
  cases hm : moreR ws e with
  | false =>
    rw [hm] at hmo
    obtain ⟨r1, r2⟩ := LoopR.lits hm g4 g5
    conv => whnf
    refine hmo.mono ?_
    rintro o T2 ⟨rfl, rfl⟩
    conv => whnf
    refine hK _ _ ?_
    clear hK hQ K
    conv => whnf
    refine ⟨_, _, hB1.sv, ?_⟩
    conv => whnf
    refine ⟨_, _, hB1.rs, ?_⟩
    conv => whnf
    refine ⟨_, _, St.upd_same _ _ _, ?_⟩
    conv => whnf
    refine ⟨_, _, ⟨{ zeroV with kind := 11, lits := acc }, _, _, rfl, rfl, g3, by rw [← hR]; unfold solG; rw [show zeroV.lits = [] from rfl, hW]; exact Agr.of r1 (fun h => by rw [← r1] at h; obtain ⟨a, b⟩ := r2 h; exact ⟨b, by rw [a]⟩)⟩, hB1.fin _, ⟨rfl, rfl, rfl, rfl, rfl, ⟨rfl, rfl⟩, rfl, rfl, rfl, rfl, rfl⟩⟩
  | true =>
    rw [hm] at hmo
    obtain ⟨rfl, hne⟩ : e = 0 ∧ ws ≠ [] := by simpa [moreR] using hm
    obtain ⟨li, hli⟩ : ∃ o, litR ws 0 = o := ⟨_, rfl⟩
    obtain ⟨k1, k2, k3⟩ := litsG_step hne acc hli
    have u2 : li.2.2 <:+ ws := by rw [← hli]; exact litR_suffix _ _
    have m2 := lit1_ok (G := G) hB1.rd hsw
    rw [hli] at m2
    have g1' := g1.over (x := rb) (St.ov n3.symm (St.upd_same _ _ _)) (rdO li.2.2 li.2.1)
    rw [St.upd_comm n3, St.upd_upd] at g1'
    conv => whnf
    refine hmo.mono ?_
    rintro o T2 ⟨rfl, rfl⟩
    refine ⟨[], (.free 0 (.free 2 (.one 1 (.one 3 (.one 4 (.one 5 (.free 6 (.one 7 .done .none)) .none) .none) .none) (.one 3 (.free 1 (.one 4 (.one 5 (.free 6 (.one 7 .done .none)) .none) .none)) .none)))), _, by decide +kernel, ?_, fun _ _ h => ⟨_, .inl rfl, h⟩⟩
    conv => whnf
    refine ⟨?_, ?_⟩
    · refine ⟨_, _, hB1.sv, ?_⟩
      conv => whnf
      refine m2.mono ?_
      rintro o T4 ⟨rfl, rfl⟩
      conv => whnf
      intro bb hbb
      have hTb := g1'.other hbb (.tip 3 1 1)
      conv => whnf
      refine ⟨⟨fun hl => ?_, ?_⟩, fun S4 c1 c2 b' c3 => ?_⟩
      · have : 0 < acc.length := by cases acc with
          | nil => exact absurd rfl hl
          | cons _ _ => simp
        rw [rowsI_len]; exact hTb.tip this
      · show ((rowsI acc).length + 1) * 8 ≤ _
        rw [rowsI_len]; omega
      have h5 := hTb.push (m := acc.length + 1) (by rw [rowsI_len]) c1 c2 c3 rfl
      rw [rowsI_len]
      conv => whnf
      rw [rowsI_snoc acc li.1]
      refine ⟨_, _, h5.le _ _ (St.upd_same _ _ _), ?_⟩
      conv => whnf
      have h6 := h5.over (x := b3) (St.upd_same _ _ _) (.obj 54 [.int .i64 11, .str ByteArray.empty, .nils, .nils, .str ByteArray.empty, .sl (.acc b') 1 (rowsI (acc ++ [li.1])), .nils, .int .i64 0, .str ByteArray.empty, .str ByteArray.empty])
      rw [St.upd_upd] at h6
      exact ⟨(li.2.2, li.2.1, acc ++ [li.1], b'), ⟨rfl, rfl, rfl, trivial⟩, ⟨_, St.leW_refl _, by dsimp only; rw [List.length_append]; exact h6, by simp <;> omega, u2.trans g3, fun h => by rw [← g4 rfl]; exact (k1 h).symm, fun h => by rw [← g4 rfl]; exact k2 h⟩, k3⟩
    · refine m2.mono ?_
      rintro o T4 ⟨rfl, rfl⟩
      conv => whnf
      refine ⟨_, _, St.ov n3 hB1.sv, ?_⟩
      conv => whnf
      intro bb hbb
      have hTb := g1'.other hbb (.tip 3 1 1)
      conv => whnf
      refine ⟨⟨fun hl => ?_, ?_⟩, fun S4 c1 c2 b' c3 => ?_⟩
      · have : 0 < acc.length := by cases acc with
          | nil => exact absurd rfl hl
          | cons _ _ => simp
        rw [rowsI_len]; exact hTb.tip this
      · show ((rowsI acc).length + 1) * 8 ≤ _
        rw [rowsI_len]; omega
      have h5 := hTb.push (m := acc.length + 1) (by rw [rowsI_len]) c1 c2 c3 rfl
      rw [rowsI_len]
      conv => whnf
      rw [rowsI_snoc acc li.1]
      refine ⟨_, _, h5.le _ _ (St.upd_same _ _ _), ?_⟩
      conv => whnf
      have h6 := h5.over (x := b3) (St.upd_same _ _ _) (.obj 54 [.int .i64 11, .str ByteArray.empty, .nils, .nils, .str ByteArray.empty, .sl (.acc b') 1 (rowsI (acc ++ [li.1])), .nils, .int .i64 0, .str ByteArray.empty, .str ByteArray.empty])
      rw [St.upd_upd] at h6
      exact ⟨(li.2.2, li.2.1, acc ++ [li.1], b'), ⟨rfl, rfl, rfl, trivial⟩, ⟨_, St.leW_refl _, by dsimp only; rw [List.length_append]; exact h6, by simp <;> omega, u2.trans g3, fun h => by rw [← g4 rfl]; exact (k1 h).symm, fun h => by rw [← g4 rfl]; exact k2 h⟩, k3⟩
theorem step_soli {S : St} {rb : Nat} {ws0 : List ByteArray} (h : S rb = some (rdO ws0 0)) (hw0 : ∀ w ∈ ws0, w.size ≤ 9000000) (hn0 : ws0.length ≤ 9000000) {w : ByteArray} (hw : w = kSoli) :
    Triple P (C G) 86 [.ref rb 0, .str w] S fun o S' => ∃ v' ws' e', o = .ret (stepAV v') ∧ S' = S.upd rb (rdO ws' e') ∧ ws' <:+ ws0 ∧ Agr v' ws' e' (tabR w ws0) := by
  obtain ⟨R, hR⟩ : ∃ R, tabR w ws0 = R := ⟨_, rfl⟩
  rw [hR]
  refine triple_of_awp (hT G) hm Tryz.func86 rfl (by decide +kernel) rfl (by decide +kernel) (by show 2 ≤ _; decide +kernel) rfl ?_
  refine awp_seq2 fun K hK hQ => ?_
  conv => whnf
  intro b2 hb2
  conv => whnf
  refine hK _ _ ?_
  clear hK hQ K
  refine awp_seq2 fun K hK hQ => ?_
  conv => whnf
  intro b3 hb3
  conv => whnf
  refine hK _ _ ?_
  clear hK hQ K
  have hE : EndS S ((S.upd b2 (.obj 54 stepZ)).upd b3 (.obj 54 stepZ)) rb b2 b3 ws0 0 stepZ :=
    ⟨St.up hb3 (St.up hb2 h), St.upd_same _ _ _, St.up hb3 (St.upd_same _ _ _), fun x p _ h2 => St.up hb3 (St.up hb2 h2), (fun e => by rw [e, h] at hb2; cases hb2), (fun e => by rw [e, St.up hb2 h] at hb3; cases hb3), (fun e => by rw [e, St.upd_same] at hb3; cases hb3), hb2, St.no hb3⟩
  change awp _ _ _ _ ((S.upd b2 (.obj 54 stepZ)).upd b3 (.obj 54 stepZ)) _
  generalize (S.upd b2 (.obj 54 stepZ)).upd b3 (.obj 54 stepZ) = F at *
  clear hb2 hb3
  refine awp_seq2 fun K hK hQ => ?_
  conv => whnf
  rw [show decide (w = (⟨#[112, 115, 101, 117, 100, 111, 45, 66, 111, 111, 108, 101, 97, 110]⟩ : ByteArray)) = false from decide_eq_false (show ¬ w = kHead from by rw [hw]; decide)]
  conv => whnf
  rw [show decide (w = (⟨#[102]⟩ : ByteArray)) = false from decide_eq_false (show ¬ w = kF from by rw [hw]; decide)]
  conv => whnf
  rw [show decide (w = (⟨#[112, 111, 108]⟩ : ByteArray)) = false from decide_eq_false (show ¬ w = kPol from by rw [hw]; decide)]
  conv => whnf
  rw [show decide (w = (⟨#[114, 117, 112]⟩ : ByteArray)) = false from decide_eq_false (show ¬ w = kRup from by rw [hw]; decide)]
  conv => whnf
  rw [show decide (w = (⟨#[101]⟩ : ByteArray)) = false from decide_eq_false (show ¬ w = kE from by rw [hw]; decide)]
  conv => whnf
  rw [show decide (w = (⟨#[115, 111, 108, 105]⟩ : ByteArray)) = true from decide_eq_true hw]
  conv => whnf
  unfold tabR tabG at hR
  rw [if_neg (show ¬ w = kHead from by rw [hw]; decide), if_neg (show ¬ w = kF from by rw [hw]; decide), if_neg (show ¬ w = kPol from by rw [hw]; decide), if_neg (show ¬ w = kRup from by rw [hw]; decide), if_pos hw] at hR
  dsimp only at hR
  refine ⟨_, _, hE.sv, ?_⟩
  conv => whnf
  have hE2 := hE.put [.int .i64 5, .str ByteArray.empty, .nils, .nils, .str ByteArray.empty, .nils, .nils, .int .i64 0, .str ByteArray.empty, .str ByteArray.empty]
  rw [show decide (w = (⟨#[115, 111, 108, 120]⟩ : ByteArray)) = false from decide_eq_false (show ¬ w = kSolx from by rw [hw]; decide)]
  conv => whnf
  obtain ⟨W, hW⟩ : ∃ W, litsG ws0 [] = W := ⟨_, rfl⟩
  generalize hBF : F.upd b3 (.obj 54 [.int .i64 5, .str ByteArray.empty, .nils, .nils, .str ByteArray.empty, .nils, .nils, .int .i64 0, .str ByteArray.empty, .str ByteArray.empty]) = B at hE2 ⊢
  clear hBF
  have n3 := hE2.n3
  refine ⟨⟨List ByteArray × Int × List Int × Nat, fun x => [(0, .ref rb 0), (4, .ref b2 0), (5, .ref b3 0)],
    fun x S1 => AccOk ((B.upd rb (rdO x.1 x.2.1)).upd b3 (.obj 54 [.int .i64 5, .str ByteArray.empty, .nils, .nils, .str ByteArray.empty, .sl (.acc x.2.2.2) 1 (rowsI x.2.2.1), .nils, .int .i64 0, .str ByteArray.empty, .str ByteArray.empty])) S1 3 1 x.2.2.2 x.2.2.1.length ∧ x.2.2.1.length + x.1.length ≤ 9000001 ∧ x.1 <:+ ws0 ∧
      (x.2.1 = 0 → litsG x.1 x.2.2.1 = W) ∧ (x.2.1 ≠ 0 → W.2.1 = x.2.1), fun x => x.1.length⟩, ⟨(ws0, 0, [], 0), ⟨rfl, rfl, rfl, trivial⟩, B.upd b3 (.obj 54 [.int .i64 5, .str ByteArray.empty, .nils, .nils, .str ByteArray.empty, .sl (.acc 0) 1 (rowsI []), .nils, .int .i64 0, .str ByteArray.empty, .str ByteArray.empty]), St.leW_upd hE2.sv ⟨rfl, rfl, rfl, rfl, rfl, rfl, rfl, rfl, rfl, rfl, trivial⟩, by rw [St.upd_id hE2.rd]; exact AccOk.init _ _ _ _, by dsimp only; simp <;> omega, List.suffix_refl _, fun _ => hW, fun h => absurd rfl h⟩, ?_⟩
  rintro ⟨ws, e, acc, ba⟩ S1 ⟨g1, g2, g3, g4, g5⟩
  dsimp only at g1 g2 g3 g4 g5
  have hB1 := ((hE2.rdr ws e).put [.int .i64 5, .str ByteArray.empty, .nils, .nils, .str ByteArray.empty, .sl (.acc ba) 1 (rowsI acc), .nils, .int .i64 0, .str ByteArray.empty, .str ByteArray.empty]).le g1.le
  have hsw : ∀ w ∈ ws, w.size ≤ 9000000 := fun w hw => hw0 w (g3.mem hw)
  have hmo := more_ok (G := G) hB1.rd
  cases hm : moreR ws e with
  | false =>
    rw [hm] at hmo
    obtain ⟨r1, r2⟩ := LoopR.lits hm g4 g5
    conv => whnf
    refine hmo.mono ?_
    rintro o T2 ⟨rfl, rfl⟩
    conv => whnf
    refine hK _ _ ?_
    clear hK hQ K
    conv => whnf
    refine ⟨_, _, hB1.sv, ?_⟩
    conv => whnf
    refine ⟨_, _, hB1.rs, ?_⟩
    conv => whnf
    refine ⟨_, _, St.upd_same _ _ _, ?_⟩
    conv => whnf
    refine ⟨_, _, ⟨{ zeroV with kind := 5, lits := acc }, _, _, rfl, rfl, g3, by rw [← hR]; unfold solG; rw [show zeroV.lits = [] from rfl, hW]; exact Agr.of r1 (fun h => by rw [← r1] at h; obtain ⟨a, b⟩ := r2 h; exact ⟨b, by rw [a]⟩)⟩, hB1.fin _, ⟨rfl, rfl, rfl, rfl, rfl, ⟨rfl, rfl⟩, rfl, rfl, rfl, rfl, rfl⟩⟩
  | true =>
    rw [hm] at hmo
    obtain ⟨rfl, hne⟩ : e = 0 ∧ ws ≠ [] := by simpa [moreR] using hm
    obtain ⟨li, hli⟩ : ∃ o, litR ws 0 = o := ⟨_, rfl⟩
    obtain ⟨k1, k2, k3⟩ := litsG_step hne acc hli
    have u2 : li.2.2 <:+ ws := by rw [← hli]; exact litR_suffix _ _
    have m2 := lit1_ok (G := G) hB1.rd hsw
    rw [hli] at m2
    have g1' := g1.over (x := rb) (St.ov n3.symm (St.upd_same _ _ _)) (rdO li.2.2 li.2.1)
    rw [St.upd_comm n3, St.upd_upd] at g1'
    conv => whnf
    refine hmo.mono ?_
    rintro o T2 ⟨rfl, rfl⟩
    refine ⟨[], (.free 0 (.free 2 (.one 1 (.one 3 (.one 4 (.one 5 (.free 6 (.one 7 .done .none)) .none) .none) .none) (.one 3 (.free 1 (.one 4 (.one 5 (.free 6 (.one 7 .done .none)) .none) .none)) .none)))), _, by decide +kernel, ?_, fun _ _ h => ⟨_, .inl rfl, h⟩⟩
    conv => whnf
    refine ⟨?_, ?_⟩
    · refine ⟨_, _, hB1.sv, ?_⟩
      conv => whnf
      refine m2.mono ?_
      rintro o T4 ⟨rfl, rfl⟩
      conv => whnf
      intro bb hbb
      have hTb := g1'.other hbb (.tip 3 1 1)
      conv => whnf
      refine ⟨⟨fun hl => ?_, ?_⟩, fun S4 c1 c2 b' c3 => ?_⟩
      · have : 0 < acc.length := by cases acc with
          | nil => exact absurd rfl hl
          | cons _ _ => simp
        rw [rowsI_len]; exact hTb.tip this
      · show ((rowsI acc).length + 1) * 8 ≤ _
        rw [rowsI_len]; omega
      have h5 := hTb.push (m := acc.length + 1) (by rw [rowsI_len]) c1 c2 c3 rfl
      rw [rowsI_len]
      conv => whnf
      rw [rowsI_snoc acc li.1]
      refine ⟨_, _, h5.le _ _ (St.upd_same _ _ _), ?_⟩
      conv => whnf
      have h6 := h5.over (x := b3) (St.upd_same _ _ _) (.obj 54 [.int .i64 5, .str ByteArray.empty, .nils, .nils, .str ByteArray.empty, .sl (.acc b') 1 (rowsI (acc ++ [li.1])), .nils, .int .i64 0, .str ByteArray.empty, .str ByteArray.empty])
      rw [St.upd_upd] at h6
      exact ⟨(li.2.2, li.2.1, acc ++ [li.1], b'), ⟨rfl, rfl, rfl, trivial⟩, ⟨_, St.leW_refl _, by dsimp only; rw [List.length_append]; exact h6, by simp <;> omega, u2.trans g3, fun h => by rw [← g4 rfl]; exact (k1 h).symm, fun h => by rw [← g4 rfl]; exact k2 h⟩, k3⟩
    · refine m2.mono ?_
      rintro o T4 ⟨rfl, rfl⟩
      conv => whnf
      refine ⟨_, _, St.ov n3 hB1.sv, ?_⟩
      conv => whnf
      intro bb hbb
      have hTb := g1'.other hbb (.tip 3 1 1)
      conv => whnf
      refine ⟨⟨fun hl => ?_, ?_⟩, fun S4 c1 c2 b' c3 => ?_⟩
      · have : 0 < acc.length := by cases acc with
          | nil => exact absurd rfl hl
          | cons _ _ => simp
        rw [rowsI_len]; exact hTb.tip this
      · show ((rowsI acc).length + 1) * 8 ≤ _
        rw [rowsI_len]; omega
      have h5 := hTb.push (m := acc.length + 1) (by rw [rowsI_len]) c1 c2 c3 rfl
      rw [rowsI_len]
      conv => whnf
      rw [rowsI_snoc acc li.1]
      refine ⟨_, _, h5.le _ _ (St.upd_same _ _ _), ?_⟩
      conv => whnf
      have h6 := h5.over (x := b3) (St.upd_same _ _ _) (.obj 54 [.int .i64 5, .str ByteArray.empty, .nils, .nils, .str ByteArray.empty, .sl (.acc b') 1 (rowsI (acc ++ [li.1])), .nils, .int .i64 0, .str ByteArray.empty, .str ByteArray.empty])
      rw [St.upd_upd] at h6
      exact ⟨(li.2.2, li.2.1, acc ++ [li.1], b'), ⟨rfl, rfl, rfl, trivial⟩, ⟨_, St.leW_refl _, by dsimp only; rw [List.length_append]; exact h6, by simp <;> omega, u2.trans g3, fun h => by rw [← g4 rfl]; exact (k1 h).symm, fun h => by rw [← g4 rfl]; exact k2 h⟩, k3⟩
theorem step_rup {S : St} {rb : Nat} {ws0 : List ByteArray} (h : S rb = some (rdO ws0 0)) (hw0 : ∀ w ∈ ws0, w.size ≤ 9000000) (hn0 : ws0.length ≤ 9000000) {w : ByteArray} (hw : w = kRup) :
    Triple P (C G) 86 [.ref rb 0, .str w] S fun o S' => ∃ v' ws' e', o = .ret (stepAV v') ∧ S' = S.upd rb (rdO ws' e') ∧ ws' <:+ ws0 ∧ Agr v' ws' e' (tabR w ws0) := by
  obtain ⟨R, hR⟩ : ∃ R, tabR w ws0 = R := ⟨_, rfl⟩
  rw [hR]
  refine triple_of_awp (hT G) hm Tryz.func86 rfl (by decide +kernel) rfl (by decide +kernel) (by show 2 ≤ _; decide +kernel) rfl ?_
  refine awp_seq2 fun K hK hQ => ?_
  conv => whnf
  intro b2 hb2
  conv => whnf
  refine hK _ _ ?_
  clear hK hQ K
  refine awp_seq2 fun K hK hQ => ?_
  conv => whnf
  intro b3 hb3
  conv => whnf
  refine hK _ _ ?_
  clear hK hQ K
  have hE : EndS S ((S.upd b2 (.obj 54 stepZ)).upd b3 (.obj 54 stepZ)) rb b2 b3 ws0 0 stepZ :=
    ⟨St.up hb3 (St.up hb2 h), St.upd_same _ _ _, St.up hb3 (St.upd_same _ _ _), fun x p _ h2 => St.up hb3 (St.up hb2 h2), (fun e => by rw [e, h] at hb2; cases hb2), (fun e => by rw [e, St.up hb2 h] at hb3; cases hb3), (fun e => by rw [e, St.upd_same] at hb3; cases hb3), hb2, St.no hb3⟩
  change awp _ _ _ _ ((S.upd b2 (.obj 54 stepZ)).upd b3 (.obj 54 stepZ)) _
  generalize (S.upd b2 (.obj 54 stepZ)).upd b3 (.obj 54 stepZ) = F at *
  clear hb2 hb3
  refine awp_seq2 fun K hK hQ => ?_
  conv => whnf
  rw [show decide (w = (⟨#[112, 115, 101, 117, 100, 111, 45, 66, 111, 111, 108, 101, 97, 110]⟩ : ByteArray)) = false from decide_eq_false (show ¬ w = kHead from by rw [hw]; decide)]
  conv => whnf
  rw [show decide (w = (⟨#[102]⟩ : ByteArray)) = false from decide_eq_false (show ¬ w = kF from by rw [hw]; decide)]
  conv => whnf
  rw [show decide (w = (⟨#[112, 111, 108]⟩ : ByteArray)) = false from decide_eq_false (show ¬ w = kPol from by rw [hw]; decide)]
  conv => whnf
  rw [show decide (w = (⟨#[114, 117, 112]⟩ : ByteArray)) = true from decide_eq_true hw]
  conv => whnf
  unfold tabR tabG at hR
  rw [if_neg (show ¬ w = kHead from by rw [hw]; decide), if_neg (show ¬ w = kF from by rw [hw]; decide), if_neg (show ¬ w = kPol from by rw [hw]; decide), if_pos hw] at hR
  dsimp only at hR
  refine ⟨_, _, hE.sv, ?_⟩
  conv => whnf
  have hE2 := hE.put [.int .i64 4, .str ByteArray.empty, .nils, .nils, .str ByteArray.empty, .nils, .nils, .int .i64 0, .str ByteArray.empty, .str ByteArray.empty]
  refine (row_ok1 (G := G) hE2.rd hw0 hn0 { zeroV with kind := 4 } rfl).mono ?_
  rintro o T3 ⟨ps, b, ws1, rfl, rfl, sf1, hrow⟩
  obtain ⟨RW, hRW⟩ : ∃ r, rowG ws0 { zeroV with kind := 4 } = r := ⟨_, rfl⟩
  have hR2 : R = if RW.1 = 0 then withIds (idsG RW.2.1 RW.2.2.ids) RW.2.2 else RW := by rw [← hR, ← hRW]; rfl
  clear hR
  rw [hRW] at hrow ⊢
  have hE3 := hE2.rdr ws1 RW.1
  conv => whnf
  refine ⟨_, _, hE3.sv, ?_⟩
  conv => whnf
  have hE4 := hE3.put [.int .i64 4, .str ByteArray.empty, .nils, .sl .any 2 (rowsP ps), .str b, .nils, .nils, .int .i64 0, .str ByteArray.empty, .str ByteArray.empty]
  obtain ⟨W, hW1, hW2⟩ : ∃ W : List ByteArray × Int × List ByteArray, (RW.1 = 0 → idsG ws1 [] = W) ∧ (RW.1 ≠ 0 → W.2.1 = RW.1) := by
    by_cases he : RW.1 = 0
    · exact ⟨_, fun _ => rfl, fun h => absurd he h⟩
    · exact ⟨([], RW.1, ws1), fun h => absurd h he, fun _ => rfl⟩
  have hl1 := sf1.length_le
  generalize hBF : ((F.upd b3 (.obj 54 [.int .i64 4, .str ByteArray.empty, .nils, .nils, .str ByteArray.empty, .nils, .nils, .int .i64 0, .str ByteArray.empty, .str ByteArray.empty])).upd rb (rdO ws1 RW.1)).upd b3 (.obj 54 [.int .i64 4, .str ByteArray.empty, .nils, .sl .any 2 (rowsP ps), .str b, .nils, .nils, .int .i64 0, .str ByteArray.empty, .str ByteArray.empty]) = B at hE4 ⊢
  clear hBF
  have n3 := hE4.n3
  refine ⟨⟨List ByteArray × Int × List ByteArray × Nat, fun x => [(0, .ref rb 0), (4, .ref b2 0), (5, .ref b3 0)],
    fun x S1 => AccOk ((B.upd rb (rdO x.1 x.2.1)).upd b3 (.obj 54 [.int .i64 4, .str ByteArray.empty, .nils, .sl .any 2 (rowsP ps), .str b, .nils, .sl (.acc x.2.2.2) 1 (rowsS x.2.2.1), .int .i64 0, .str ByteArray.empty, .str ByteArray.empty])) S1 9 1 x.2.2.2 x.2.2.1.length ∧ x.2.2.1.length + x.1.length ≤ 9000001 ∧ x.1 <:+ ws0 ∧
      (x.2.1 = 0 → idsG x.1 x.2.2.1 = W) ∧ (x.2.1 ≠ 0 → W.2.1 = x.2.1), fun x => x.1.length⟩, ⟨(ws1, RW.1, [], 0), ⟨rfl, rfl, rfl, trivial⟩, B.upd b3 (.obj 54 [.int .i64 4, .str ByteArray.empty, .nils, .sl .any 2 (rowsP ps), .str b, .nils, .sl (.acc 0) 1 (rowsS []), .int .i64 0, .str ByteArray.empty, .str ByteArray.empty]), St.leW_upd hE4.sv ⟨rfl, rfl, rfl, ⟨rfl, rfl⟩, rfl, rfl, rfl, rfl, rfl, rfl, trivial⟩, by rw [St.upd_id hE4.rd]; exact AccOk.init _ _ _ _, by dsimp only; simp <;> omega, sf1, hW1, hW2⟩, ?_⟩
  rintro ⟨ws, e, acc, ba⟩ S1 ⟨g1, g2, g3, g4, g5⟩
  dsimp only at g1 g2 g3 g4 g5
  have hB1 := ((hE4.rdr ws e).put [.int .i64 4, .str ByteArray.empty, .nils, .sl .any 2 (rowsP ps), .str b, .nils, .sl (.acc ba) 1 (rowsS acc), .int .i64 0, .str ByteArray.empty, .str ByteArray.empty]).le g1.le
  have hsw : ∀ w ∈ ws, w.size ≤ 9000000 := fun w hw => hw0 w (g3.mem hw)
  have hmo := more_ok (G := G) hB1.rd
  cases hm : moreR ws e with
  | false =>
    rw [hm] at hmo
    obtain ⟨r1, r2⟩ := LoopR.ids hm g4 g5
    conv => whnf
    refine hmo.mono ?_
    rintro o T2 ⟨rfl, rfl⟩
    conv => whnf
    refine hK _ _ ?_
    clear hK hQ K
    conv => whnf
    refine ⟨_, _, hB1.sv, ?_⟩
    conv => whnf
    refine ⟨_, _, hB1.rs, ?_⟩
    conv => whnf
    refine ⟨_, _, St.upd_same _ _ _, ?_⟩
    conv => whnf
    refine ⟨_, _, ⟨{ zeroV with kind := 4, pieces := ps, bound := b, ids := acc }, _, _, rfl, rfl, g3, by
      rw [hR2]
      by_cases he : RW.1 = 0
      · obtain ⟨a1, a2⟩ := hrow he
        rw [if_pos he, ← a1, show RW.2.2.ids = [] from by rw [a2]; rfl, hW1 he, a2]
        exact Agr.of r1 (fun h => by
          rw [show (withIds W { zeroV with kind := 4, pieces := ps, bound := b }).1 = W.2.1 from rfl, ← r1] at h
          obtain ⟨a, b⟩ := r2 h
          exact ⟨b, by rw [a]; rfl⟩)
      · rw [if_neg he]
        exact Agr.of (by rw [r1]; exact hW2 he) (fun h => absurd h he)⟩, hB1.fin _, ⟨rfl, rfl, rfl, ⟨rfl, rfl⟩, rfl, rfl, ⟨rfl, rfl⟩, rfl, rfl, rfl, rfl⟩⟩
  | true =>
    rw [hm] at hmo
    obtain ⟨rfl, hne⟩ : e = 0 ∧ ws ≠ [] := by simpa [moreR] using hm
    obtain ⟨li, hli⟩ : ∃ o, numR 1 ws 0 = o := ⟨_, rfl⟩
    obtain ⟨k1, k2, k3⟩ := idsG_step hne acc hli
    have u2 : li.2.2 <:+ ws := by rw [← hli]; exact numR_suffix _ _ _
    have m2 := number1_ok (G := G) hB1.rd hsw 1 (by omega) (by omega)
    rw [hli] at m2
    have g1' := g1.over (x := rb) (St.ov n3.symm (St.upd_same _ _ _)) (rdO li.2.2 li.2.1)
    rw [St.upd_comm n3, St.upd_upd] at g1'
    conv => whnf
    refine hmo.mono ?_
    rintro o T2 ⟨rfl, rfl⟩
    refine ⟨[], (.free 0 (.free 2 (.one 1 (.one 3 (.one 4 (.one 5 (.free 6 (.one 7 .done .none)) .none) .none) .none) (.one 3 (.free 1 (.one 4 (.one 5 (.free 6 (.one 7 .done .none)) .none) .none)) .none)))), _, by decide +kernel, ?_, fun _ _ h => ⟨_, .inl rfl, h⟩⟩
    conv => whnf
    refine ⟨?_, ?_⟩
    · refine ⟨_, _, hB1.sv, ?_⟩
      conv => whnf
      refine m2.mono ?_
      rintro o T4 ⟨rfl, rfl⟩
      conv => whnf
      intro bb hbb
      have hTb := g1'.other hbb (.tip 9 1 1)
      conv => whnf
      refine ⟨⟨fun hl => ?_, ?_⟩, fun S4 c1 c2 b' c3 => ?_⟩
      · have : 0 < acc.length := by cases acc with
          | nil => exact absurd rfl hl
          | cons _ _ => simp
        rw [rowsS_len]; exact hTb.tip this
      · show ((rowsS acc).length + 1) * 16 ≤ _
        rw [rowsS_len]; omega
      have h5 := hTb.push (m := acc.length + 1) (by rw [rowsS_len]) c1 c2 c3 rfl
      rw [rowsS_len]
      conv => whnf
      rw [rowsS_snoc acc li.1]
      refine ⟨_, _, h5.le _ _ (St.upd_same _ _ _), ?_⟩
      conv => whnf
      have h6 := h5.over (x := b3) (St.upd_same _ _ _) (.obj 54 [.int .i64 4, .str ByteArray.empty, .nils, .sl .any 2 (rowsP ps), .str b, .nils, .sl (.acc b') 1 (rowsS (acc ++ [li.1])), .int .i64 0, .str ByteArray.empty, .str ByteArray.empty])
      rw [St.upd_upd] at h6
      exact ⟨(li.2.2, li.2.1, acc ++ [li.1], b'), ⟨rfl, rfl, rfl, trivial⟩, ⟨_, St.leW_refl _, by dsimp only; rw [List.length_append]; exact h6, by simp <;> omega, u2.trans g3, fun h => by rw [← g4 rfl]; exact (k1 h).symm, fun h => by rw [← g4 rfl]; exact k2 h⟩, k3⟩
    · refine m2.mono ?_
      rintro o T4 ⟨rfl, rfl⟩
      conv => whnf
      refine ⟨_, _, St.ov n3 hB1.sv, ?_⟩
      conv => whnf
      intro bb hbb
      have hTb := g1'.other hbb (.tip 9 1 1)
      conv => whnf
      refine ⟨⟨fun hl => ?_, ?_⟩, fun S4 c1 c2 b' c3 => ?_⟩
      · have : 0 < acc.length := by cases acc with
          | nil => exact absurd rfl hl
          | cons _ _ => simp
        rw [rowsS_len]; exact hTb.tip this
      · show ((rowsS acc).length + 1) * 16 ≤ _
        rw [rowsS_len]; omega
      have h5 := hTb.push (m := acc.length + 1) (by rw [rowsS_len]) c1 c2 c3 rfl
      rw [rowsS_len]
      conv => whnf
      rw [rowsS_snoc acc li.1]
      refine ⟨_, _, h5.le _ _ (St.upd_same _ _ _), ?_⟩
      conv => whnf
      have h6 := h5.over (x := b3) (St.upd_same _ _ _) (.obj 54 [.int .i64 4, .str ByteArray.empty, .nils, .sl .any 2 (rowsP ps), .str b, .nils, .sl (.acc b') 1 (rowsS (acc ++ [li.1])), .int .i64 0, .str ByteArray.empty, .str ByteArray.empty])
      rw [St.upd_upd] at h6
      exact ⟨(li.2.2, li.2.1, acc ++ [li.1], b'), ⟨rfl, rfl, rfl, trivial⟩, ⟨_, St.leW_refl _, by dsimp only; rw [List.length_append]; exact h6, by simp <;> omega, u2.trans g3, fun h => by rw [← g4 rfl]; exact (k1 h).symm, fun h => by rw [← g4 rfl]; exact k2 h⟩, k3⟩
theorem step_same {S : St} {rb : Nat} {ws0 : List ByteArray} (h : S rb = some (rdO ws0 0)) (hw0 : ∀ w ∈ ws0, w.size ≤ 9000000) (hn0 : ws0.length ≤ 9000000) {w : ByteArray} (hw : w = kE) :
    Triple P (C G) 86 [.ref rb 0, .str w] S fun o S' => ∃ v' ws' e', o = .ret (stepAV v') ∧ S' = S.upd rb (rdO ws' e') ∧ ws' <:+ ws0 ∧ Agr v' ws' e' (tabR w ws0) := by
  obtain ⟨R, hR⟩ : ∃ R, tabR w ws0 = R := ⟨_, rfl⟩
  rw [hR]
  refine triple_of_awp (hT G) hm Tryz.func86 rfl (by decide +kernel) rfl (by decide +kernel) (by show 2 ≤ _; decide +kernel) rfl ?_
  refine awp_seq2 fun K hK hQ => ?_
  conv => whnf
  intro b2 hb2
  conv => whnf
  refine hK _ _ ?_
  clear hK hQ K
  refine awp_seq2 fun K hK hQ => ?_
  conv => whnf
  intro b3 hb3
  conv => whnf
  refine hK _ _ ?_
  clear hK hQ K
  have hE : EndS S ((S.upd b2 (.obj 54 stepZ)).upd b3 (.obj 54 stepZ)) rb b2 b3 ws0 0 stepZ :=
    ⟨St.up hb3 (St.up hb2 h), St.upd_same _ _ _, St.up hb3 (St.upd_same _ _ _), fun x p _ h2 => St.up hb3 (St.up hb2 h2), (fun e => by rw [e, h] at hb2; cases hb2), (fun e => by rw [e, St.up hb2 h] at hb3; cases hb3), (fun e => by rw [e, St.upd_same] at hb3; cases hb3), hb2, St.no hb3⟩
  change awp _ _ _ _ ((S.upd b2 (.obj 54 stepZ)).upd b3 (.obj 54 stepZ)) _
  generalize (S.upd b2 (.obj 54 stepZ)).upd b3 (.obj 54 stepZ) = F at *
  clear hb2 hb3
  refine awp_seq2 fun K hK hQ => ?_
  conv => whnf
  rw [show decide (w = (⟨#[112, 115, 101, 117, 100, 111, 45, 66, 111, 111, 108, 101, 97, 110]⟩ : ByteArray)) = false from decide_eq_false (show ¬ w = kHead from by rw [hw]; decide)]
  conv => whnf
  rw [show decide (w = (⟨#[102]⟩ : ByteArray)) = false from decide_eq_false (show ¬ w = kF from by rw [hw]; decide)]
  conv => whnf
  rw [show decide (w = (⟨#[112, 111, 108]⟩ : ByteArray)) = false from decide_eq_false (show ¬ w = kPol from by rw [hw]; decide)]
  conv => whnf
  rw [show decide (w = (⟨#[114, 117, 112]⟩ : ByteArray)) = false from decide_eq_false (show ¬ w = kRup from by rw [hw]; decide)]
  conv => whnf
  rw [show decide (w = (⟨#[101]⟩ : ByteArray)) = true from decide_eq_true hw]
  conv => whnf
  unfold tabR tabG at hR
  rw [if_neg (show ¬ w = kHead from by rw [hw]; decide), if_neg (show ¬ w = kF from by rw [hw]; decide), if_neg (show ¬ w = kPol from by rw [hw]; decide), if_neg (show ¬ w = kRup from by rw [hw]; decide), if_neg (show ¬ w = kSoli from by rw [hw]; decide), if_neg (show ¬ w = kSolx from by rw [hw]; decide), if_pos hw] at hR
  dsimp only at hR
  refine ⟨_, _, hE.sv, ?_⟩
  conv => whnf
  have hE2 := hE.put [.int .i64 12, .str ByteArray.empty, .nils, .nils, .str ByteArray.empty, .nils, .nils, .int .i64 0, .str ByteArray.empty, .str ByteArray.empty]
  obtain ⟨n, hn⟩ : ∃ o, numR 1 ws0 0 = o := ⟨_, rfl⟩
  have u1 : n.2.2 <:+ ws0 := by rw [← hn]; exact numR_suffix _ _ _
  have hm := number1_ok (G := G) hE2.rd hw0 1 (by omega) (by omega)
  rw [hn] at hm
  have hR2 : R = if n.2.1 = 0 then rowG n.2.2 { zeroV with kind := 12, ids := [n.1] } else (n.2.1, n.2.2, { zeroV with kind := 12 }) := by rw [← hR, ← hn]; rfl
  clear hR
  refine hm.mono ?_
  rintro o T3 ⟨rfl, rfl⟩
  have hE3 := hE2.rdr n.2.2 n.2.1
  conv => whnf
  intro bb hbb
  have hE4 := hE3.more hbb (.tip 9 1 1)
  conv => whnf
  refine ⟨_, _, hE4.sv, ?_⟩
  conv => whnf
  have hE5 := hE4.put [.int .i64 12, .str ByteArray.empty, .nils, .nils, .str ByteArray.empty, .nils, .sl (.own bb) 1 [[.str n.1]], .int .i64 0, .str ByteArray.empty, .str ByteArray.empty]
  by_cases he : n.2.1 = 0
  · rw [if_pos he] at hR2
    rw [he] at hE5 ⊢
    refine (row_ok1 (G := G) hE5.rd (fun w hw => hw0 w (u1.mem hw)) (Nat.le_trans u1.length_le hn0) { zeroV with kind := 12, ids := [n.1] } rfl).mono ?_
    rintro o T3 ⟨ps, b, ws1, rfl, rfl, sf1, hrow⟩
    rw [← hR2] at hrow ⊢
    have hE6 := hE5.rdr ws1 R.1
    conv => whnf
    refine ⟨_, _, hE6.sv, ?_⟩
    conv => whnf
    have hE7 := hE6.put [.int .i64 12, .str ByteArray.empty, .nils, .sl .any 2 (rowsP ps), .str b, .nils, .sl (.own bb) 1 [[.str n.1]], .int .i64 0, .str ByteArray.empty, .str ByteArray.empty]
    refine hK _ _ ?_
    clear hK hQ K
    conv => whnf
    refine ⟨_, _, hE7.sv, ?_⟩
    conv => whnf
    refine ⟨_, _, hE7.rs, ?_⟩
    conv => whnf
    refine ⟨_, _, St.upd_same _ _ _, ?_⟩
    conv => whnf
    refine ⟨_, _, ⟨{ zeroV with kind := 12, ids := [n.1], pieces := ps, bound := b }, _, _, rfl, rfl, sf1.trans u1, Agr.of rfl (fun h => by obtain ⟨a, b⟩ := hrow h; exact ⟨a, b.symm⟩)⟩, hE7.fin _, ⟨rfl, rfl, rfl, ⟨rfl, rfl⟩, rfl, rfl, ⟨rfl, rfl⟩, rfl, rfl, rfl, rfl⟩⟩
  · rw [if_neg he] at hR2
    refine (row_err (G := G) hE5.rd he (fun w hw => hw0 w (u1.mem hw))).mono ?_
    rintro o T3 ⟨⟨ps, b, rfl⟩, rfl⟩
    conv => whnf
    refine ⟨_, _, hE5.sv, ?_⟩
    conv => whnf
    have hE7 := hE5.put [.int .i64 12, .str ByteArray.empty, .nils, .sl .any 2 (rowsP ps), .str b, .nils, .sl (.own bb) 1 [[.str n.1]], .int .i64 0, .str ByteArray.empty, .str ByteArray.empty]
    refine hK _ _ ?_
    clear hK hQ K
    conv => whnf
    refine ⟨_, _, hE7.sv, ?_⟩
    conv => whnf
    refine ⟨_, _, hE7.rs, ?_⟩
    conv => whnf
    refine ⟨_, _, St.upd_same _ _ _, ?_⟩
    conv => whnf
    refine ⟨_, _, ⟨{ zeroV with kind := 12, ids := [n.1], pieces := ps, bound := b }, _, _, rfl, rfl, u1, by rw [hR2]; exact Agr.of rfl (fun h => absurd h he)⟩, hE7.fin _, ⟨rfl, rfl, rfl, ⟨rfl, rfl⟩, rfl, rfl, ⟨rfl, rfl⟩, rfl, rfl, rfl, rfl⟩⟩
theorem step_concl {S : St} {rb : Nat} {ws0 : List ByteArray} (h : S rb = some (rdO ws0 0)) (hw0 : ∀ w ∈ ws0, w.size ≤ 9000000) (hn0 : ws0.length ≤ 9000000) {w : ByteArray} (hw : w = kConc) :
    Triple P (C G) 86 [.ref rb 0, .str w] S fun o S' => ∃ v' ws' e', o = .ret (stepAV v') ∧ S' = S.upd rb (rdO ws' e') ∧ ws' <:+ ws0 ∧ Agr v' ws' e' (tabR w ws0) := by
  obtain ⟨R, hR⟩ : ∃ R, tabR w ws0 = R := ⟨_, rfl⟩
  rw [hR]
  refine triple_of_awp (hT G) hm Tryz.func86 rfl (by decide +kernel) rfl (by decide +kernel) (by show 2 ≤ _; decide +kernel) rfl ?_
  refine awp_seq2 fun K hK hQ => ?_
  conv => whnf
  intro b2 hb2
  conv => whnf
  refine hK _ _ ?_
  clear hK hQ K
  refine awp_seq2 fun K hK hQ => ?_
  conv => whnf
  intro b3 hb3
  conv => whnf
  refine hK _ _ ?_
  clear hK hQ K
  have hE : EndS S ((S.upd b2 (.obj 54 stepZ)).upd b3 (.obj 54 stepZ)) rb b2 b3 ws0 0 stepZ :=
    ⟨St.up hb3 (St.up hb2 h), St.upd_same _ _ _, St.up hb3 (St.upd_same _ _ _), fun x p _ h2 => St.up hb3 (St.up hb2 h2), (fun e => by rw [e, h] at hb2; cases hb2), (fun e => by rw [e, St.up hb2 h] at hb3; cases hb3), (fun e => by rw [e, St.upd_same] at hb3; cases hb3), hb2, St.no hb3⟩
  change awp _ _ _ _ ((S.upd b2 (.obj 54 stepZ)).upd b3 (.obj 54 stepZ)) _
  generalize (S.upd b2 (.obj 54 stepZ)).upd b3 (.obj 54 stepZ) = F at *
  clear hb2 hb3
  refine awp_seq2 fun K hK hQ => ?_
  conv => whnf
  rw [show decide (w = (⟨#[112, 115, 101, 117, 100, 111, 45, 66, 111, 111, 108, 101, 97, 110]⟩ : ByteArray)) = false from decide_eq_false (show ¬ w = kHead from by rw [hw]; decide)]
  conv => whnf
  rw [show decide (w = (⟨#[102]⟩ : ByteArray)) = false from decide_eq_false (show ¬ w = kF from by rw [hw]; decide)]
  conv => whnf
  rw [show decide (w = (⟨#[112, 111, 108]⟩ : ByteArray)) = false from decide_eq_false (show ¬ w = kPol from by rw [hw]; decide)]
  conv => whnf
  rw [show decide (w = (⟨#[114, 117, 112]⟩ : ByteArray)) = false from decide_eq_false (show ¬ w = kRup from by rw [hw]; decide)]
  conv => whnf
  rw [show decide (w = (⟨#[101]⟩ : ByteArray)) = false from decide_eq_false (show ¬ w = kE from by rw [hw]; decide)]
  conv => whnf
  rw [show decide (w = (⟨#[115, 111, 108, 105]⟩ : ByteArray)) = false from decide_eq_false (show ¬ w = kSoli from by rw [hw]; decide)]
  conv => whnf
  rw [show decide (w = (⟨#[115, 111, 108, 120]⟩ : ByteArray)) = false from decide_eq_false (show ¬ w = kSolx from by rw [hw]; decide)]
  conv => whnf
  rw [show decide (w = (⟨#[100, 101, 108]⟩ : ByteArray)) = false from decide_eq_false (show ¬ w = kDel from by rw [hw]; decide)]
  conv => whnf
  rw [show decide (w = (⟨#[111, 117, 116, 112, 117, 116]⟩ : ByteArray)) = false from decide_eq_false (show ¬ w = kOut from by rw [hw]; decide)]
  conv => whnf
  rw [show decide (w = (⟨#[99, 111, 110, 99, 108, 117, 115, 105, 111, 110]⟩ : ByteArray)) = true from decide_eq_true hw]
  conv => whnf
  unfold tabR tabG at hR
  rw [if_neg (show ¬ w = kHead from by rw [hw]; decide), if_neg (show ¬ w = kF from by rw [hw]; decide), if_neg (show ¬ w = kPol from by rw [hw]; decide), if_neg (show ¬ w = kRup from by rw [hw]; decide), if_neg (show ¬ w = kSoli from by rw [hw]; decide), if_neg (show ¬ w = kSolx from by rw [hw]; decide), if_neg (show ¬ w = kE from by rw [hw]; decide), if_neg (show ¬ w = kDel from by rw [hw]; decide), if_neg (show ¬ w = kStar from by rw [hw]; decide), if_neg (show ¬ w = kOut from by rw [hw]; decide), if_pos hw] at hR
  dsimp only at hR
  refine (ends_ok1 (G := G) hE.rd hw0).mono ?_
  rintro o T3 ⟨v', ws', e', rfl, rfl, sf1, hag⟩
  rw [hR] at hag
  have hE2 := hE.rdr ws' e'
  conv => whnf
  refine ⟨_, _, hE2.sv, ?_⟩
  conv => whnf
  have hE3 := hE2.put [.int .i64 v'.kind, .str v'.num, .sl .any 3 (rowsO v'.ops), .sl .any 2 (rowsP v'.pieces), .str v'.bound, .sl .any 1 (rowsI v'.lits), .sl .any 1 (rowsS v'.ids), .int .i64 v'.n6, .str v'.s7, .str v'.s8]
  refine hK _ _ ?_
  clear hK hQ K
  conv => whnf
  refine ⟨_, _, hE3.sv, ?_⟩
  conv => whnf
  refine ⟨_, _, hE3.rs, ?_⟩
  conv => whnf
  refine ⟨_, _, St.upd_same _ _ _, ?_⟩
  conv => whnf
  exact ⟨_, _, ⟨v', _, _, rfl, rfl, sf1, hag⟩, hE3.fin _, AV.leS_refl _ _ _⟩
end Go.Proofs.YtcpdgnkhkdddhaaGreatDoor.Aw

set_option maxRecDepth 100000
set_option linter.unusedVariables false
set_option linter.unusedSimpArgs false
namespace Go.Proofs.YtcpdgnkhkdddhaaGreatDoor.Aw
open Go Go.RowKit
variable {G : Nat → Option (List AV)}

theorem step_del {S : St} {rb : Nat} {ws0 : List ByteArray} (h : S rb = some (rdO ws0 0)) (hw0 : ∀ w ∈ ws0, w.size ≤ 9000000) (hn0 : ws0.length ≤ 9000000) {w : ByteArray} (hw : w = kDel) :
    Triple P (C G) 86 [.ref rb 0, .str w] S fun o S' => ∃ v' ws' e', o = .ret (stepAV v') ∧ S' = S.upd rb (rdO ws' e') ∧ ws' <:+ ws0 ∧ Agr v' ws' e' (tabR w ws0) := by
  obtain ⟨R, hR⟩ : ∃ R, tabR w ws0 = R := ⟨_, rfl⟩
  rw [hR]
  refine triple_of_awp (hT G) hm Tryz.func86 rfl (by decide +kernel) rfl (by decide +kernel) (by show 2 ≤ _; decide +kernel) rfl ?_
  refine awp_seq2 fun K hK hQ => ?_
  conv => whnf
  intro b2 hb2
  conv => whnf
  refine hK _ _ ?_
  clear hK hQ K
  refine awp_seq2 fun K hK hQ => ?_
  conv => whnf
  intro b3 hb3
  conv => whnf
  refine hK _ _ ?_
  clear hK hQ K
  have hE : EndS S ((S.upd b2 (.obj 54 stepZ)).upd b3 (.obj 54 stepZ)) rb b2 b3 ws0 0 stepZ :=
    ⟨St.up hb3 (St.up hb2 h), St.upd_same _ _ _, St.up hb3 (St.upd_same _ _ _), fun x p _ h2 => St.up hb3 (St.up hb2 h2), (fun e => by rw [e, h] at hb2; cases hb2), (fun e => by rw [e, St.up hb2 h] at hb3; cases hb3), (fun e => by rw [e, St.upd_same] at hb3; cases hb3), hb2, St.no hb3⟩
  change awp _ _ _ _ ((S.upd b2 (.obj 54 stepZ)).upd b3 (.obj 54 stepZ)) _
  generalize (S.upd b2 (.obj 54 stepZ)).upd b3 (.obj 54 stepZ) = F at *
  clear hb2 hb3
  refine awp_seq2 fun K hK hQ => ?_
  conv => whnf
  rw [show decide (w = (⟨#[112, 115, 101, 117, 100, 111, 45, 66, 111, 111, 108, 101, 97, 110]⟩ : ByteArray)) = false from decide_eq_false (show ¬ w = kHead from by rw [hw]; decide)]
  conv => whnf
  rw [show decide (w = (⟨#[102]⟩ : ByteArray)) = false from decide_eq_false (show ¬ w = kF from by rw [hw]; decide)]
  conv => whnf
  rw [show decide (w = (⟨#[112, 111, 108]⟩ : ByteArray)) = false from decide_eq_false (show ¬ w = kPol from by rw [hw]; decide)]
  conv => whnf
  rw [show decide (w = (⟨#[114, 117, 112]⟩ : ByteArray)) = false from decide_eq_false (show ¬ w = kRup from by rw [hw]; decide)]
  conv => whnf
  rw [show decide (w = (⟨#[101]⟩ : ByteArray)) = false from decide_eq_false (show ¬ w = kE from by rw [hw]; decide)]
  conv => whnf
  rw [show decide (w = (⟨#[115, 111, 108, 105]⟩ : ByteArray)) = false from decide_eq_false (show ¬ w = kSoli from by rw [hw]; decide)]
  conv => whnf
  rw [show decide (w = (⟨#[115, 111, 108, 120]⟩ : ByteArray)) = false from decide_eq_false (show ¬ w = kSolx from by rw [hw]; decide)]
  conv => whnf
  rw [show decide (w = (⟨#[100, 101, 108]⟩ : ByteArray)) = true from decide_eq_true hw]
  conv => whnf
  unfold tabR tabG at hR
  rw [if_neg (show ¬ w = kHead from by rw [hw]; decide), if_neg (show ¬ w = kF from by rw [hw]; decide), if_neg (show ¬ w = kPol from by rw [hw]; decide), if_neg (show ¬ w = kRup from by rw [hw]; decide), if_neg (show ¬ w = kSoli from by rw [hw]; decide), if_neg (show ¬ w = kSolx from by rw [hw]; decide), if_neg (show ¬ w = kE from by rw [hw]; decide), if_pos hw] at hR
  dsimp only at hR
  refine ⟨_, _, hE.sv, ?_⟩
  conv => whnf
  have hE2 := hE.put [.int .i64 6, .str ByteArray.empty, .nils, .nils, .str ByteArray.empty, .nils, .nils, .int .i64 0, .str ByteArray.empty, .str ByteArray.empty]
  obtain ⟨oo, ho⟩ : ∃ o, exactG ws0 idWords = o := ⟨_, rfl⟩
  have hm := one_ok (G := G) hE2.rd ⟨#[105, 100]⟩
  rw [one_wordsR, show [(⟨#[105, 100]⟩ : ByteArray)] = idWords from rfl, wordsR_exact, ho] at hm
  have u1 : oo.1 <:+ ws0 := by rw [← ho]; exact exactG_suffix _ _
  obtain ⟨n, hn⟩ : ∃ o, numR 1 oo.1 oo.2 = o := ⟨_, rfl⟩
  have u3 : n.2.2 <:+ ws0 := by rw [← hn]; exact (numR_suffix _ _ _).trans u1
  refine hm.mono ?_
  rintro o T3 ⟨rfl, rfl⟩
  have hE3 := hE2.rdr oo.1 oo.2
  have m2 := number1_ok (G := G) hE3.rd (fun w hw => hw0 w (u1.mem hw)) 1 (by omega) (by omega)
  rw [hn] at m2
  obtain ⟨W, hW1, hW2⟩ : ∃ W : List ByteArray × Int × List ByteArray, (n.2.1 = 0 → idsG n.2.2 [n.1] = W) ∧ (n.2.1 ≠ 0 → W.2.1 = n.2.1) := by
    by_cases he : n.2.1 = 0
    · exact ⟨_, fun _ => rfl, fun h => absurd he h⟩
    · exact ⟨([], n.2.1, []), fun h => absurd h he, fun _ => rfl⟩
  have hAgr : ∀ (acc : List ByteArray) (e : Int) (ws : List ByteArray), e = W.2.1 → (e = 0 → acc = W.1 ∧ ws = W.2.2) → Agr { zeroV with kind := 6, ids := acc } ws e R := by
    intro acc e ws r1 r2
    rw [← hR]
    unfold delG
    rw [ho]
    by_cases h0 : oo.2 = 0
    · rw [if_pos h0]
      rw [h0, numR_ok] at hn
      rw [hn]
      by_cases h1 : n.2.1 = 0
      · rw [if_pos h1, hW1 h1]
        exact Agr.of r1 (fun h => by
          rw [show (withIds W { zeroV with kind := 6 }).1 = W.2.1 from rfl, ← r1] at h
          obtain ⟨a, b⟩ := r2 h
          exact ⟨b, by rw [a]; rfl⟩)
      · rw [if_neg h1]
        exact Agr.of (by rw [r1]; exact hW2 h1) (fun h => absurd h h1)
    · rw [if_neg h0]
      rw [numR_err h0] at hn
      subst hn
      exact Agr.of (by rw [r1]; exact hW2 h0) (fun h => absurd h h0)
  clear hR
  have hln : (1 : Nat) + n.2.2.length ≤ 9000001 := by have := u3.length_le; omega
  have hE4 := (hE3.rdr n.2.2 n.2.1).put [.int .i64 6, .str ByteArray.empty, .nils, .nils, .str ByteArray.empty, .nils, .sl (.acc 0) 1 (rowsS []), .int .i64 0, .str ByteArray.empty, .str ByteArray.empty]
  have n3 := hE3.n3
  generalize hBF : (F.upd b3 (.obj 54 [.int .i64 6, .str ByteArray.empty, .nils, .nils, .str ByteArray.empty, .nils, .nils, .int .i64 0, .str ByteArray.empty, .str ByteArray.empty])).upd rb (rdO oo.1 oo.2) = B at hE3 hE4 m2 ⊢
  clear hBF
  refine ⟨[], (.free 0 (.free 2 (.one 1 (.one 3 (.one 4 (.one 5 (.free 6 (.one 7 .done .none)) .none) .none) .none) (.one 3 (.free 1 (.one 4 (.one 5 (.free 6 (.one 7 .done .none)) .none) .none)) .none)))), _, by decide +kernel, ?_, fun _ _ h => ⟨_, .inl rfl, h⟩⟩
  conv => whnf
  refine ⟨?_, ?_⟩
  · refine ⟨_, _, hE3.sv, ?_⟩
    conv => whnf
    refine m2.mono ?_
    rintro o T4 ⟨rfl, rfl⟩
    conv => whnf
    intro bb hbb
    conv => whnf
    refine ⟨by show 1 * 16 ≤ _; decide, ?_⟩
    conv => whnf
    intro b' c3
    conv => whnf
    have h5 := ((AccOk.init (B.upd rb (rdO n.2.2 n.2.1)) 9 1 0).other hbb (.tip 9 1 1)).push (es := []) (m := 1) rfl (fun _ => rfl) (fun h => absurd rfl h) c3 rfl
    refine ⟨_, _, h5.le _ _ (hE3.rdr n.2.2 n.2.1).sv, ?_⟩
    conv => whnf
    have h6 := h5.over (x := b3) (hE3.rdr n.2.2 n.2.1).sv (.obj 54 [.int .i64 6, .str ByteArray.empty, .nils, .nils, .str ByteArray.empty, .nils, .sl (.acc b') 1 (rowsS [n.1]), .int .i64 0, .str ByteArray.empty, .str ByteArray.empty])
    have h7 := St.leW_upd (cs' := [.int .i64 6, .str ByteArray.empty, .nils, .nils, .str ByteArray.empty, .nils, .sl (.acc b') 1 (rowsS [n.1]), .int .i64 0, .str ByteArray.empty, .str ByteArray.empty]) (St.upd_same (((B.upd rb (rdO n.2.2 n.2.1)).upd bb (.tip 9 1 1)).upd b' (.tip 9 1 1)) b3 (.obj 54 [.int .i64 6, .str ByteArray.empty, .nils, .nils, .str ByteArray.empty, .nils, .sl (.own b') 1 [[.str n.1]], .int .i64 0, .str ByteArray.empty, .str ByteArray.empty])) ⟨rfl, rfl, rfl, rfl, rfl, rfl, ⟨by simp, rfl, rfl, rfl⟩, rfl, rfl, rfl, trivial⟩
    rw [St.upd_upd] at h7
    have n3 := hE3.n3
    refine ⟨⟨List ByteArray × Int × List ByteArray × Nat, fun x => [(0, .ref rb 0), (4, .ref b2 0), (5, .ref b3 0)],
      fun x S1 => AccOk ((B.upd rb (rdO x.1 x.2.1)).upd b3 (.obj 54 [.int .i64 6, .str ByteArray.empty, .nils, .nils, .str ByteArray.empty, .nils, .sl (.acc x.2.2.2) 1 (rowsS x.2.2.1), .int .i64 0, .str ByteArray.empty, .str ByteArray.empty])) S1 9 1 x.2.2.2 x.2.2.1.length ∧ x.2.2.1.length + x.1.length ≤ 9000001 ∧ x.1 <:+ ws0 ∧
        (x.2.1 = 0 → idsG x.1 x.2.2.1 = W) ∧ (x.2.1 ≠ 0 → W.2.1 = x.2.1), fun x => x.1.length⟩, ⟨(n.2.2, n.2.1, [n.1], b'), ⟨rfl, rfl, rfl, trivial⟩, _, h7, h6, hln, u3, hW1, hW2⟩, ?_⟩
    rintro ⟨ws, e, acc, ba⟩ S1 ⟨g1, g2, g3, g4, g5⟩
    dsimp only at g1 g2 g3 g4 g5
    have hB1 := ((hE3.rdr ws e).put [.int .i64 6, .str ByteArray.empty, .nils, .nils, .str ByteArray.empty, .nils, .sl (.acc ba) 1 (rowsS acc), .int .i64 0, .str ByteArray.empty, .str ByteArray.empty]).le g1.le
    have hsw : ∀ w ∈ ws, w.size ≤ 9000000 := fun w hw => hw0 w (g3.mem hw)
    have hmo := more_ok (G := G) hB1.rd
    cases hm : moreR ws e with
    | false =>
      rw [hm] at hmo
      obtain ⟨r1, r2⟩ := LoopR.ids hm g4 g5
      conv => whnf
      refine hmo.mono ?_
      rintro o T2 ⟨rfl, rfl⟩
      conv => whnf
      refine hK _ _ ?_
      clear hK hQ K
      conv => whnf
      refine ⟨_, _, hB1.sv, ?_⟩
      conv => whnf
      refine ⟨_, _, hB1.rs, ?_⟩
      conv => whnf
      refine ⟨_, _, St.upd_same _ _ _, ?_⟩
      conv => whnf
      refine ⟨_, _, ⟨{ zeroV with kind := 6, ids := acc }, _, _, rfl, rfl, g3, hAgr _ _ _ r1 r2⟩, hB1.fin _, ⟨rfl, rfl, rfl, rfl, rfl, rfl, ⟨rfl, rfl⟩, rfl, rfl, rfl, rfl⟩⟩
    | true =>
      rw [hm] at hmo
      obtain ⟨rfl, hne⟩ : e = 0 ∧ ws ≠ [] := by simpa [moreR] using hm
      obtain ⟨li, hli⟩ : ∃ o, numR 1 ws 0 = o := ⟨_, rfl⟩
      obtain ⟨k1, k2, k3⟩ := idsG_step hne acc hli
      have u2 : li.2.2 <:+ ws := by rw [← hli]; exact numR_suffix _ _ _
      have m2 := number1_ok (G := G) hB1.rd hsw 1 (by omega) (by omega)
      rw [hli] at m2
      have g1' := g1.over (x := rb) (St.ov n3.symm (St.upd_same _ _ _)) (rdO li.2.2 li.2.1)
      rw [St.upd_comm n3, St.upd_upd] at g1'
      conv => whnf
      refine hmo.mono ?_
      rintro o T2 ⟨rfl, rfl⟩
      refine ⟨[], (.free 0 (.free 2 (.one 1 (.one 3 (.one 4 (.one 5 (.free 6 (.one 7 .done .none)) .none) .none) .none) (.one 3 (.free 1 (.one 4 (.one 5 (.free 6 (.one 7 .done .none)) .none) .none)) .none)))), _, by decide +kernel, ?_, fun _ _ h => ⟨_, .inl rfl, h⟩⟩
      conv => whnf
      refine ⟨?_, ?_⟩
      · refine ⟨_, _, hB1.sv, ?_⟩
        conv => whnf
        refine m2.mono ?_
        rintro o T4 ⟨rfl, rfl⟩
        conv => whnf
        intro bb hbb
        have hTb := g1'.other hbb (.tip 9 1 1)
        conv => whnf
        refine ⟨⟨fun hl => ?_, ?_⟩, fun S4 c1 c2 b' c3 => ?_⟩
        · have : 0 < acc.length := by cases acc with
            | nil => exact absurd rfl hl
            | cons _ _ => simp
          rw [rowsS_len]; exact hTb.tip this
        · show ((rowsS acc).length + 1) * 16 ≤ _
          rw [rowsS_len]; omega
        have h5 := hTb.push (m := acc.length + 1) (by rw [rowsS_len]) c1 c2 c3 rfl
        rw [rowsS_len]
        conv => whnf
        rw [rowsS_snoc acc li.1]
        refine ⟨_, _, h5.le _ _ (St.upd_same _ _ _), ?_⟩
        conv => whnf
        have h6 := h5.over (x := b3) (St.upd_same _ _ _) (.obj 54 [.int .i64 6, .str ByteArray.empty, .nils, .nils, .str ByteArray.empty, .nils, .sl (.acc b') 1 (rowsS (acc ++ [li.1])), .int .i64 0, .str ByteArray.empty, .str ByteArray.empty])
        rw [St.upd_upd] at h6
        exact ⟨(li.2.2, li.2.1, acc ++ [li.1], b'), ⟨rfl, rfl, rfl, trivial⟩, ⟨_, St.leW_refl _, by dsimp only; rw [List.length_append]; exact h6, by simp <;> omega, u2.trans g3, fun h => by rw [← g4 rfl]; exact (k1 h).symm, fun h => by rw [← g4 rfl]; exact k2 h⟩, k3⟩
      · refine m2.mono ?_
        rintro o T4 ⟨rfl, rfl⟩
        conv => whnf
        refine ⟨_, _, St.ov n3 hB1.sv, ?_⟩
        conv => whnf
        intro bb hbb
        have hTb := g1'.other hbb (.tip 9 1 1)
        conv => whnf
        refine ⟨⟨fun hl => ?_, ?_⟩, fun S4 c1 c2 b' c3 => ?_⟩
        · have : 0 < acc.length := by cases acc with
            | nil => exact absurd rfl hl
            | cons _ _ => simp
          rw [rowsS_len]; exact hTb.tip this
        · show ((rowsS acc).length + 1) * 16 ≤ _
          rw [rowsS_len]; omega
        have h5 := hTb.push (m := acc.length + 1) (by rw [rowsS_len]) c1 c2 c3 rfl
        rw [rowsS_len]
        conv => whnf
        rw [rowsS_snoc acc li.1]
        refine ⟨_, _, h5.le _ _ (St.upd_same _ _ _), ?_⟩
        conv => whnf
        have h6 := h5.over (x := b3) (St.upd_same _ _ _) (.obj 54 [.int .i64 6, .str ByteArray.empty, .nils, .nils, .str ByteArray.empty, .nils, .sl (.acc b') 1 (rowsS (acc ++ [li.1])), .int .i64 0, .str ByteArray.empty, .str ByteArray.empty])
        rw [St.upd_upd] at h6
        exact ⟨(li.2.2, li.2.1, acc ++ [li.1], b'), ⟨rfl, rfl, rfl, trivial⟩, ⟨_, St.leW_refl _, by dsimp only; rw [List.length_append]; exact h6, by simp <;> omega, u2.trans g3, fun h => by rw [← g4 rfl]; exact (k1 h).symm, fun h => by rw [← g4 rfl]; exact k2 h⟩, k3⟩
  · refine m2.mono ?_
    rintro o T4 ⟨rfl, rfl⟩
    conv => whnf
    refine ⟨_, _, (hE3.rdr n.2.2 n.2.1).sv, ?_⟩
    conv => whnf
    intro bb hbb
    conv => whnf
    refine ⟨by show 1 * 16 ≤ _; decide, ?_⟩
    conv => whnf
    intro b' c3
    conv => whnf
    have h5 := ((AccOk.init (B.upd rb (rdO n.2.2 n.2.1)) 9 1 0).other hbb (.tip 9 1 1)).push (es := []) (m := 1) rfl (fun _ => rfl) (fun h => absurd rfl h) c3 rfl
    refine ⟨_, _, h5.le _ _ (hE3.rdr n.2.2 n.2.1).sv, ?_⟩
    conv => whnf
    have h6 := h5.over (x := b3) (hE3.rdr n.2.2 n.2.1).sv (.obj 54 [.int .i64 6, .str ByteArray.empty, .nils, .nils, .str ByteArray.empty, .nils, .sl (.acc b') 1 (rowsS [n.1]), .int .i64 0, .str ByteArray.empty, .str ByteArray.empty])
    have h7 := St.leW_upd (cs' := [.int .i64 6, .str ByteArray.empty, .nils, .nils, .str ByteArray.empty, .nils, .sl (.acc b') 1 (rowsS [n.1]), .int .i64 0, .str ByteArray.empty, .str ByteArray.empty]) (St.upd_same (((B.upd rb (rdO n.2.2 n.2.1)).upd bb (.tip 9 1 1)).upd b' (.tip 9 1 1)) b3 (.obj 54 [.int .i64 6, .str ByteArray.empty, .nils, .nils, .str ByteArray.empty, .nils, .sl (.own b') 1 [[.str n.1]], .int .i64 0, .str ByteArray.empty, .str ByteArray.empty])) ⟨rfl, rfl, rfl, rfl, rfl, rfl, ⟨by simp, rfl, rfl, rfl⟩, rfl, rfl, rfl, trivial⟩
    rw [St.upd_upd] at h7
    have n3 := hE3.n3
    refine ⟨⟨List ByteArray × Int × List ByteArray × Nat, fun x => [(0, .ref rb 0), (4, .ref b2 0), (5, .ref b3 0)],
      fun x S1 => AccOk ((B.upd rb (rdO x.1 x.2.1)).upd b3 (.obj 54 [.int .i64 6, .str ByteArray.empty, .nils, .nils, .str ByteArray.empty, .nils, .sl (.acc x.2.2.2) 1 (rowsS x.2.2.1), .int .i64 0, .str ByteArray.empty, .str ByteArray.empty])) S1 9 1 x.2.2.2 x.2.2.1.length ∧ x.2.2.1.length + x.1.length ≤ 9000001 ∧ x.1 <:+ ws0 ∧
        (x.2.1 = 0 → idsG x.1 x.2.2.1 = W) ∧ (x.2.1 ≠ 0 → W.2.1 = x.2.1), fun x => x.1.length⟩, ⟨(n.2.2, n.2.1, [n.1], b'), ⟨rfl, rfl, rfl, trivial⟩, _, h7, h6, hln, u3, hW1, hW2⟩, ?_⟩
    rintro ⟨ws, e, acc, ba⟩ S1 ⟨g1, g2, g3, g4, g5⟩
    dsimp only at g1 g2 g3 g4 g5
    have hB1 := ((hE3.rdr ws e).put [.int .i64 6, .str ByteArray.empty, .nils, .nils, .str ByteArray.empty, .nils, .sl (.acc ba) 1 (rowsS acc), .int .i64 0, .str ByteArray.empty, .str ByteArray.empty]).le g1.le
    have hsw : ∀ w ∈ ws, w.size ≤ 9000000 := fun w hw => hw0 w (g3.mem hw)
    have hmo := more_ok (G := G) hB1.rd
    cases hm : moreR ws e with
    | false =>
      rw [hm] at hmo
      obtain ⟨r1, r2⟩ := LoopR.ids hm g4 g5
      conv => whnf
      refine hmo.mono ?_
      rintro o T2 ⟨rfl, rfl⟩
      conv => whnf
      refine hK _ _ ?_
      clear hK hQ K
      conv => whnf
      refine ⟨_, _, hB1.sv, ?_⟩
      conv => whnf
      refine ⟨_, _, hB1.rs, ?_⟩
      conv => whnf
      refine ⟨_, _, St.upd_same _ _ _, ?_⟩
      conv => whnf
      refine ⟨_, _, ⟨{ zeroV with kind := 6, ids := acc }, _, _, rfl, rfl, g3, hAgr _ _ _ r1 r2⟩, hB1.fin _, ⟨rfl, rfl, rfl, rfl, rfl, rfl, ⟨rfl, rfl⟩, rfl, rfl, rfl, rfl⟩⟩
    | true =>
      rw [hm] at hmo
      obtain ⟨rfl, hne⟩ : e = 0 ∧ ws ≠ [] := by simpa [moreR] using hm
      obtain ⟨li, hli⟩ : ∃ o, numR 1 ws 0 = o := ⟨_, rfl⟩
      obtain ⟨k1, k2, k3⟩ := idsG_step hne acc hli
      have u2 : li.2.2 <:+ ws := by rw [← hli]; exact numR_suffix _ _ _
      have m2 := number1_ok (G := G) hB1.rd hsw 1 (by omega) (by omega)
      rw [hli] at m2
      have g1' := g1.over (x := rb) (St.ov n3.symm (St.upd_same _ _ _)) (rdO li.2.2 li.2.1)
      rw [St.upd_comm n3, St.upd_upd] at g1'
      conv => whnf
      refine hmo.mono ?_
      rintro o T2 ⟨rfl, rfl⟩
      refine ⟨[], (.free 0 (.free 2 (.one 1 (.one 3 (.one 4 (.one 5 (.free 6 (.one 7 .done .none)) .none) .none) .none) (.one 3 (.free 1 (.one 4 (.one 5 (.free 6 (.one 7 .done .none)) .none) .none)) .none)))), _, by decide +kernel, ?_, fun _ _ h => ⟨_, .inl rfl, h⟩⟩
      conv => whnf
      refine ⟨?_, ?_⟩
      · refine ⟨_, _, hB1.sv, ?_⟩
        conv => whnf
        refine m2.mono ?_
        rintro o T4 ⟨rfl, rfl⟩
        conv => whnf
        intro bb hbb
        have hTb := g1'.other hbb (.tip 9 1 1)
        conv => whnf
        refine ⟨⟨fun hl => ?_, ?_⟩, fun S4 c1 c2 b' c3 => ?_⟩
        · have : 0 < acc.length := by cases acc with
            | nil => exact absurd rfl hl
            | cons _ _ => simp
          rw [rowsS_len]; exact hTb.tip this
        · show ((rowsS acc).length + 1) * 16 ≤ _
          rw [rowsS_len]; omega
        have h5 := hTb.push (m := acc.length + 1) (by rw [rowsS_len]) c1 c2 c3 rfl
        rw [rowsS_len]
        conv => whnf
        rw [rowsS_snoc acc li.1]
        refine ⟨_, _, h5.le _ _ (St.upd_same _ _ _), ?_⟩
        conv => whnf
        have h6 := h5.over (x := b3) (St.upd_same _ _ _) (.obj 54 [.int .i64 6, .str ByteArray.empty, .nils, .nils, .str ByteArray.empty, .nils, .sl (.acc b') 1 (rowsS (acc ++ [li.1])), .int .i64 0, .str ByteArray.empty, .str ByteArray.empty])
        rw [St.upd_upd] at h6
        exact ⟨(li.2.2, li.2.1, acc ++ [li.1], b'), ⟨rfl, rfl, rfl, trivial⟩, ⟨_, St.leW_refl _, by dsimp only; rw [List.length_append]; exact h6, by simp <;> omega, u2.trans g3, fun h => by rw [← g4 rfl]; exact (k1 h).symm, fun h => by rw [← g4 rfl]; exact k2 h⟩, k3⟩
      · refine m2.mono ?_
        rintro o T4 ⟨rfl, rfl⟩
        conv => whnf
        refine ⟨_, _, St.ov n3 hB1.sv, ?_⟩
        conv => whnf
        intro bb hbb
        have hTb := g1'.other hbb (.tip 9 1 1)
        conv => whnf
        refine ⟨⟨fun hl => ?_, ?_⟩, fun S4 c1 c2 b' c3 => ?_⟩
        · have : 0 < acc.length := by cases acc with
            | nil => exact absurd rfl hl
            | cons _ _ => simp
          rw [rowsS_len]; exact hTb.tip this
        · show ((rowsS acc).length + 1) * 16 ≤ _
          rw [rowsS_len]; omega
        have h5 := hTb.push (m := acc.length + 1) (by rw [rowsS_len]) c1 c2 c3 rfl
        rw [rowsS_len]
        conv => whnf
        rw [rowsS_snoc acc li.1]
        refine ⟨_, _, h5.le _ _ (St.upd_same _ _ _), ?_⟩
        conv => whnf
        have h6 := h5.over (x := b3) (St.upd_same _ _ _) (.obj 54 [.int .i64 6, .str ByteArray.empty, .nils, .nils, .str ByteArray.empty, .nils, .sl (.acc b') 1 (rowsS (acc ++ [li.1])), .int .i64 0, .str ByteArray.empty, .str ByteArray.empty])
        rw [St.upd_upd] at h6
        exact ⟨(li.2.2, li.2.1, acc ++ [li.1], b'), ⟨rfl, rfl, rfl, trivial⟩, ⟨_, St.leW_refl _, by dsimp only; rw [List.length_append]; exact h6, by simp <;> omega, u2.trans g3, fun h => by rw [← g4 rfl]; exact (k1 h).symm, fun h => by rw [← g4 rfl]; exact k2 h⟩, k3⟩

end Go.Proofs.YtcpdgnkhkdddhaaGreatDoor.Aw

set_option maxRecDepth 100000
set_option linter.unusedVariables false
set_option linter.unusedSimpArgs false
namespace Go.Proofs.YtcpdgnkhkdddhaaGreatDoor.Aw
open Go Go.RowKit Go.Extern.Stop Go.Stop Go.Extern
variable {G : Nat → Option (List AV)}

theorem as_nil (t : Value) (w : World) :
    Calls Tryz.prog 95 #[.nilIface, t] w fun e w' => e = .returned (.bool false) ∧ w' = w := by
  go_enter Tryz.func95, Tryz.ntmps95
  go_wp2
  go_ret
  exact ⟨rfl, rfl⟩
theorem As.valueOf2 (t : Addr) (w : World) : (ReflectliteValue.unpack (.iface 166 (.pointer (some t)))).run Tryz.prog w
    = .ok (.agg #[.pointer (some ⟨9, 166, none⟩), .pointer (some ⟨w.heap.size, 0, none⟩), .int .u64 150]) (w.alloc (.cells #[.pointer (some t)] 166)) := by kernel_rfl
theorem As.type2 (a : Addr) (w : World) : (ReflectliteValue.methodAny (ReflectliteValue.valueError "reflectlite.Value.Type" 0) (fun t _ _ _ => ReflectliteType.toType t) #[.agg #[.pointer (some ⟨9, 166, none⟩), .pointer (some a), .int .u64 150]]).run Tryz.prog w
    = .ok (.iface 241 (.agg #[.pointer (some ⟨9, 166, none⟩)])) w := by kernel_rfl
theorem As.methodKind (h : Value) (w : World) : (Go.method 473 241 (.agg #[h]) "Kind").run Tryz.prog w = .ok (262, h) w := by kernel_rfl
theorem As.kind2 (w : World) : ((ReflectliteType.abiMethod fun t => (fun a : Nat => Value.int IntKind.u8 (a : Int)) <$> Rtype.kind t) #[.pointer (some ⟨9, 166, none⟩)]).run Tryz.prog w = .ok (.int .u8 22) w := by kernel_rfl
theorem As.kind1 (w : World) : ((ReflectliteType.abiMethod fun t => (fun a : Nat => Value.int IntKind.u8 (a : Int)) <$> Rtype.kind t) #[.pointer (some ⟨9, 72, none⟩)]).run Tryz.prog w = .ok (.int .u8 22) w := by kernel_rfl
theorem As.rlm (z : Sem Value) (f : TypeId → Addr → Nat → Nat → Sem Value) (v : Value) :
    ReflectliteValue.method z f #[v] = (do match ← ReflectliteValue.parts v with | none => z | some (t, a, fl) => f t a fl (fl % 32)) := rfl
theorem As.parts2 (a : Addr) (w : World) : (ReflectliteValue.parts (.agg #[.pointer (some ⟨9, 166, none⟩), .pointer (some a), .int .u64 150])).run Tryz.prog w = .ok (some (166, a, 150)) w := by kernel_rfl
theorem As.isNil2 (a p : Addr) (W : World) (ha : W.cell? a = some (.pointer (some p))) :
    (ReflectliteValue.method (ReflectliteValue.valueError "reflectlite.Value.IsNil" 0) ReflectliteValue.isNil #[.agg #[.pointer (some ⟨9, 166, none⟩), .pointer (some a), .int .u64 150]]).run Tryz.prog W = .ok (.bool false) W := by
  rw [As.rlm]
  simp only [Sem.run_bind, As.parts2, Result.andThen]
  simp [ReflectliteValue.isNil, loadVar, isAgg, underlying, Tryz.underlying166, ha, Result.andThen]
theorem As.methodElem (h : Value) (w : World) : (Go.method 473 241 (.agg #[h]) "Elem").run Tryz.prog w = .ok (275, .agg #[h]) w := by kernel_rfl
theorem As.methodImplements (h : Value) (w : World) : (Go.method 473 241 (.agg #[h]) "Implements").run Tryz.prog w = .ok (276, .agg #[h]) w := by kernel_rfl
theorem As.methodAssignableTo (h : Value) (w : World) : (Go.method 473 241 (.agg #[h]) "AssignableTo").run Tryz.prog w = .ok (273, .agg #[h]) w := by kernel_rfl
theorem As.elem2 (w : World) : (ReflectliteType.method ReflectliteType.elem #[.agg #[.pointer (some ⟨9, 166, none⟩)]]).run Tryz.prog w = .ok (.iface 241 (.agg #[.pointer (some ⟨9, 72, none⟩)])) w := by kernel_rfl
theorem As.implements1 (w : World) : (ReflectliteType.relation "Implements" ReflectliteType.implements_ #[.agg #[.pointer (some ⟨9, 72, none⟩)], .iface 241 (.agg #[.pointer (some ⟨9, 69, none⟩)])]).run Tryz.prog w = .ok (.bool true) w := by kernel_rfl
theorem As.typeOf1 (v : Value) (w : World) : (ReflectliteType.typeOf #[.iface 72 v]).run Tryz.prog w = .ok (.iface 241 (.agg #[.pointer (some ⟨9, 72, none⟩)])) w := by kernel_rfl
theorem As.assignable1 (w : World) : (ReflectliteType.relation "AssignableTo" ReflectliteType.assignableTo #[.agg #[.pointer (some ⟨9, 72, none⟩)], .iface 241 (.agg #[.pointer (some ⟨9, 72, none⟩)])]).run Tryz.prog w = .ok (.bool true) w := by kernel_rfl
theorem As.valueOf1 (e : Addr) (w : World) : (ReflectliteValue.unpack (.iface 72 (.pointer (some e)))).run Tryz.prog w
    = .ok (.agg #[.pointer (some ⟨9, 72, none⟩), .pointer (some ⟨w.heap.size, 0, none⟩), .int .u64 150]) (w.alloc (.cells #[.pointer (some e)] 72)) := by kernel_rfl
theorem As.elemOf2 (w : World) : (Rtype.elem? 166).run Tryz.prog w = .ok (some 72) w := by kernel_rfl
theorem As.mk1 (p : Addr) (w : World) : (ReflectliteValue.mk 72 p ReflectliteValue.flagAddr).run Tryz.prog w = .ok (.agg #[.pointer (some ⟨9, 72, none⟩), .pointer (some p), .int .u64 406]) w := by kernel_rfl
theorem As.elemV2 (a p : Addr) (W : World) (ha : W.cell? a = some (.pointer (some p))) :
    (ReflectliteValue.method (ReflectliteValue.valueError "reflectlite.Value.Elem" 0) ReflectliteValue.elem #[.agg #[.pointer (some ⟨9, 166, none⟩), .pointer (some a), .int .u64 150]]).run Tryz.prog W
      = .ok (.agg #[.pointer (some ⟨9, 72, none⟩), .pointer (some p), .int .u64 406]) W := by
  rw [As.rlm]
  simp only [Sem.run_bind, As.parts2, Result.andThen]
  simp [ReflectliteValue.elem, loadVar, isAgg, underlying, Tryz.underlying166, ha, Result.andThen, As.elemOf2, As.mk1]
theorem As.rls (v x : Value) : ReflectliteValue.set #[v, x] = (do
    let (some (dst, a, fl), some (src, b, _)) := (← ReflectliteValue.parts v, ← ReflectliteValue.parts x)
      | unsupported (.noEntry "extern/(internal/reflectlite.Value).Set.zeroValue")
    if fl / ReflectliteValue.flagAddr % 2 == 0 then unsupported (.noEntry "extern/(internal/reflectlite.Value).Set.unaddressable")
    let val ← loadVar src b
    if ← Rtype.directlyAssignable dst src then storeVar dst a val
    else if ← Rtype.implements dst src then
      if (← Rtype.kind src) == 20 then
        match val with
        | .nilIface => unsupported (.noEntry "extern/reflectlite: a nil value of one interface type handed on as a value of another")
        | _ => storeVar dst a val
      else storeVar dst a (.iface src val)
    else panicString ("reflectlite.Set: value of type " ++ (← Rtype.spelt src) ++ " is not assignable to type " ++ (← Rtype.spelt dst))
    pure (.tuple #[])) := rfl
theorem As.parts1a (a : Addr) (w : World) : (ReflectliteValue.parts (.agg #[.pointer (some ⟨9, 72, none⟩), .pointer (some a), .int .u64 406])).run Tryz.prog w = .ok (some (72, a, 406)) w := by kernel_rfl
theorem As.parts1 (a : Addr) (w : World) : (ReflectliteValue.parts (.agg #[.pointer (some ⟨9, 72, none⟩), .pointer (some a), .int .u64 150])).run Tryz.prog w = .ok (some (72, a, 150)) w := by kernel_rfl
theorem As.direct1 (w : World) : (Rtype.directlyAssignable 72 72).run Tryz.prog w = .ok true w := by kernel_rfl
theorem As.set1 (ta b e : Addr) (old : Value) (W : World) (hb : W.cell? b = some (.pointer (some e))) (ht : W.cell? ta = some old) (hf : W.frozen? ta = false) :
    (ReflectliteValue.set #[.agg #[.pointer (some ⟨9, 72, none⟩), .pointer (some ta), .int .u64 406], .agg #[.pointer (some ⟨9, 72, none⟩), .pointer (some b), .int .u64 150]]).run Tryz.prog W
      = .ok (.tuple #[]) (W.setCell ta (.pointer (some e))) := by
  rw [As.rls]
  simp only [Sem.run_bind, As.parts1a, As.parts1, Result.andThen]
  simp [ReflectliteValue.flagAddr, loadVar, isAgg, underlying, Tryz.underlying72, hb, Result.andThen, As.direct1, storeVar, Value.cells, storeCells, Addr.add]
  rw [run_store Tryz.prog W ta _ _ (by rfl)]
  simp [ht, hf]
set_option maxHeartbeats 4000000 in
theorem as_hit (e t : Addr) (old : Value) (w : World) (hg : w.cell? ⟨0, 0, none⟩ = some (.iface 241 (.agg #[.pointer (some ⟨9, 69, none⟩)]))) (ht0 : w.cell? t = some old) (hf0 : w.frozen? t = false) :
    Calls Tryz.prog 95 #[.iface 72 (.pointer (some e)), .iface 166 (.pointer (some t))] w fun ev w' => ev = .returned (.bool true) ∧ w' = ((((w.alloc (.cells #[.pointer (some t)] 166)).alloc (.cells #[.pointer (some ⟨9, 166, none⟩), .pointer (some ⟨w.heap.size, 0, none⟩), .int .u64 150] 219)).alloc (.cells #[.pointer (some ⟨9, 166, none⟩), .pointer (some ⟨w.heap.size, 0, none⟩), .int .u64 150] 219)).alloc (.cells #[.pointer (some e)] 72)).setCell t (.pointer (some e)) := by
  have h6 := @run_callFunc_extern Tryz.prog 126 _ (fun args => ReflectliteValue.unpack (args.getD 0 (.tuple #[]))) Tryz.func126 (by kernel_rfl) (by kernel_rfl) (by kernel_rfl) (by kernel_rfl)
  have h7 := @run_callFunc_extern Tryz.prog 127 _ (ReflectliteValue.methodAny (ReflectliteValue.valueError "reflectlite.Value.Type" 0) (fun t _ _ _ => ReflectliteType.toType t)) Tryz.func127 (by kernel_rfl) (by kernel_rfl) (by kernel_rfl) (by kernel_rfl)
  have h8 := @run_callFunc_extern Tryz.prog 128 _ (ReflectliteValue.method (ReflectliteValue.valueError "reflectlite.Value.IsNil" 0) ReflectliteValue.isNil) Tryz.func128 (by kernel_rfl) (by kernel_rfl) (by kernel_rfl) (by kernel_rfl)
  have h27 := @run_callFunc_extern Tryz.prog 262 _ (ReflectliteType.abiMethod fun t => do pure (.int .u8 (← Rtype.kind t))) Tryz.func262 (by kernel_rfl) (by kernel_rfl) (by kernel_rfl) (by kernel_rfl)
  have h37 := @run_callFunc_extern Tryz.prog 275 _ (ReflectliteType.method ReflectliteType.elem) Tryz.func275 (by kernel_rfl) (by kernel_rfl) (by kernel_rfl) (by kernel_rfl)
  have h38 := @run_callFunc_extern Tryz.prog 276 _ (ReflectliteType.relation "Implements" ReflectliteType.implements_) Tryz.func276 (by kernel_rfl) (by kernel_rfl) (by kernel_rfl) (by kernel_rfl)
  have h10 := @run_callFunc_extern Tryz.prog 155 _ ReflectliteType.typeOf Tryz.func155 (by kernel_rfl) (by kernel_rfl) (by kernel_rfl) (by kernel_rfl)
  have h35 := @run_callFunc_extern Tryz.prog 273 _ (ReflectliteType.relation "AssignableTo" ReflectliteType.assignableTo) Tryz.func273 (by kernel_rfl) (by kernel_rfl) (by kernel_rfl) (by kernel_rfl)
  have h11 := @run_callFunc_extern Tryz.prog 156 _ (ReflectliteValue.method (ReflectliteValue.valueError "reflectlite.Value.Elem" 0) ReflectliteValue.elem) Tryz.func156 (by kernel_rfl) (by kernel_rfl) (by kernel_rfl) (by kernel_rfl)
  have h12 := @run_callFunc_extern Tryz.prog 157 _ ReflectliteValue.set Tryz.func157 (by kernel_rfl) (by kernel_rfl) (by kernel_rfl) (by kernel_rfl)
  have tO := As.typeOf1
  have mA := As.methodAssignableTo
  have a25 := As.assignable1
  have v25 := As.valueOf1
  have f6 := As.valueOf2
  have f7 := As.type2
  have mK := As.methodKind
  have mE := As.methodElem
  have mI := As.methodImplements
  have k27 := As.kind2
  have k25 := As.kind1
  have e27 := As.elem2
  have i25 := As.implements1
  have n8 := As.isNil2 ⟨w.heap.size, 0, none⟩ t ((w.alloc (.cells #[.pointer (some t)] 166)).alloc (.cells #[.pointer (some ⟨9, 166, none⟩), .pointer (some ⟨w.heap.size, 0, none⟩), .int .u64 150] 219)) (by simp)
  have hlt : 0 < w.heap.size := by
    rcases Nat.eq_zero_or_pos w.heap.size with h0 | h
    · simp [World.cell?, h0] at hg
    · exact h
  have hg2 : ((w.alloc (.cells #[.pointer (some t)] 166)).alloc (.cells #[.pointer (some ⟨9, 166, none⟩), .pointer (some ⟨w.heap.size, 0, none⟩), .int .u64 150] 219)).cell? ⟨0, 0, none⟩ = some (.iface 241 (.agg #[.pointer (some ⟨9, 69, none⟩)])) := by
    rw [World.cell?_alloc_lt _ _ ⟨0, 0, none⟩ (by simp), World.cell?_alloc_lt _ _ ⟨0, 0, none⟩ hlt]; exact hg
  have htl : t.block < w.heap.size := by
    rcases Nat.lt_or_ge t.block w.heap.size with h | h
    · exact h
    · simp [World.cell?, Array.getElem?_eq_none h] at ht0
  have el := As.elemV2 ⟨w.heap.size, 0, none⟩ t (((w.alloc (.cells #[.pointer (some t)] 166)).alloc (.cells #[.pointer (some ⟨9, 166, none⟩), .pointer (some ⟨w.heap.size, 0, none⟩), .int .u64 150] 219)).alloc (.cells #[.pointer (some ⟨9, 166, none⟩), .pointer (some ⟨w.heap.size, 0, none⟩), .int .u64 150] 219)) (by rw [World.cell?_alloc_lt _ _ ⟨w.heap.size, 0, none⟩ (by simp; omega)]; simp)
  have st := As.set1 t ⟨w.heap.size + 1 + 1 + 1, 0, none⟩ e old ((((w.alloc (.cells #[.pointer (some t)] 166)).alloc (.cells #[.pointer (some ⟨9, 166, none⟩), .pointer (some ⟨w.heap.size, 0, none⟩), .int .u64 150] 219)).alloc (.cells #[.pointer (some ⟨9, 166, none⟩), .pointer (some ⟨w.heap.size, 0, none⟩), .int .u64 150] 219)).alloc (.cells #[.pointer (some e)] 72))
    (by rw [World.cell?_alloc_at _ _ _ _ (by simp)]; rfl)
    (by rw [World.cell?_alloc_lt _ _ t (by simp; omega), World.cell?_alloc_lt _ _ t (by simp; omega), World.cell?_alloc_lt _ _ t (by simp; omega), World.cell?_alloc_lt _ _ t htl]; exact ht0)
    (by rw [World.frozen?_alloc_old _ _ t (by simp; omega), World.frozen?_alloc_old _ _ t (by simp; omega), World.frozen?_alloc_old _ _ t (by simp; omega), World.frozen?_alloc_old _ _ t (Nat.ne_of_lt htl)]; exact hf0)
  go_enter Tryz.func95, Tryz.ntmps95
  go_wp2
  refine wp_loop_rounds 1 ?_
  rw [rounds_succ]
  go_wp2
  go_ret
  exact ⟨rfl, rfl⟩
end Go.Proofs.YtcpdgnkhkdddhaaGreatDoor.Aw

set_option maxRecDepth 100000
set_option linter.unusedVariables false
set_option linter.unusedSimpArgs false
namespace Go.Proofs.YtcpdgnkhkdddhaaGreatDoor.Aw
open Go Go.RowKit
variable {G : Nat → Option (List AV)}

theorem good_alloc {w : World} {S : St} (hg : Good (C G) w S) (o : Obj) : Good (C G) (w.alloc o) S ∧ Adv w S (w.alloc o) S :=
  ⟨hg.mk (hg.1.alloc o) (Adv.alloc o hg.1.fresh), Adv.alloc o hg.1.fresh⟩
/-- What errors.errorType holds. -/
def GAs (G : Nat → Option (List AV)) : Prop := G 0 = some [.raw (.iface 241 (.agg #[.pointer (some ⟨9, 69, none⟩)]))]
theorem as_ok_nil (x : AV) (S : St) : Triple P (C G) 95 [.nili, x] S fun o S' => o = .ret (.bool false) ∧ S' = S := by
  refine Triple.of_calls (x := .bool false) Tryz.func95 rfl (by decide +kernel) (fun w vs hg hr => ?_) ⟨rfl, rfl⟩
  obtain ⟨u, v, hv, r1, r2⟩ := RelL.two hr
  simp only [Rel] at r1
  subst r1
  rw [show vs = #[.nilIface, v] from arr_of_list hv]
  refine (as_nil v w).mono fun e w' he => ?_
  obtain ⟨rfl, rfl⟩ := he
  exact ⟨_, rfl, by simp only [Rel], Below.refl _ _⟩
theorem as_ok_hit (hA : GAs G) (e : Int) {b : Nat} {S : St} (hS : S b = some (.obj 72 [.nilp])) :
    Triple P (C G) 95 [failAV e, .ifc 166 (.ref b 0)] S fun o S' => o = .ret (.bool true) ∧ S' = S.upd b (.obj 72 [.imm [.int .i64 2, .int .i64 0, .int .i64 e]]) := by
  refine Triple.of_callsW Tryz.func95 rfl (by decide +kernel) (fun w vs hg hr => ?_)
  obtain ⟨u, v, hv, r1, r2⟩ := RelL.two hr
  unfold failAV at r1
  simp only [Rel] at r1 r2
  obtain ⟨y, rfl, fb, off, rfl, r3⟩ := r1
  obtain ⟨z, rfl, rfl⟩ := r2
  rw [show vs = #[.iface 72 (.pointer (some ⟨fb, off, none⟩)), .iface 166 (.pointer (some ⟨b, 0, none⟩))] from arr_of_list hv]
  obtain ⟨_, _, h3, _⟩ := hg.2 _ _ hA
  simp only [RelAt] at h3
  obtain ⟨⟨v0, ⟨_, h4, _⟩, h5⟩, _⟩ := h3
  simp only [Rel] at h5
  subst h5
  obtain ⟨cs, k1, k2, k3⟩ := hg.1 b _ hS
  obtain ⟨u0, hu0, h6⟩ := RelL.one k2
  simp only [Rel] at h6
  subst h6
  obtain rfl : cs = #[.pointer none] := arr_of_list hu0
  refine (as_hit ⟨fb, off, none⟩ ⟨b, 0, none⟩ (.pointer none) w h4 (by rw [Lib.cell_of_heap k1]; rfl) (by simp [World.frozen?, k1])).mono fun ev w' he => ?_
  obtain ⟨rfl, rfl⟩ := he
  obtain ⟨g1, a1⟩ := good_alloc hg (.cells #[.pointer (some ⟨b, 0, none⟩)] 166)
  obtain ⟨g2, a2⟩ := good_alloc g1 (.cells #[.pointer (some ⟨9, 166, none⟩), .pointer (some ⟨w.heap.size, 0, none⟩), .int .u64 150] 219)
  obtain ⟨g3, a3⟩ := good_alloc g2 (.cells #[.pointer (some ⟨9, 166, none⟩), .pointer (some ⟨w.heap.size, 0, none⟩), .int .u64 150] 219)
  obtain ⟨g4, a4⟩ := good_alloc g3 (.cells #[.pointer (some ⟨fb, off, none⟩)] 72)
  have aa := ((a1.trans a2).trans a3).trans a4
  generalize (((w.alloc _).alloc _).alloc _).alloc _ = w4 at *
  obtain ⟨cs, k1', k2', k3'⟩ := g4.1 b _ hS
  obtain ⟨u0, hu0, h6⟩ := RelL.one k2'
  simp only [Rel] at h6
  subst h6
  obtain rfl : cs = #[.pointer none] := arr_of_list hu0
  obtain ⟨r1, r2⟩ := setCell_row k1' (.pointer (some ⟨fb, off, none⟩))
  obtain ⟨q1, q2⟩ := good_row (w' := w4.setCell ⟨b, 0, none⟩ (.pointer (some ⟨fb, off, none⟩))) (cells' := [.imm [.int .i64 2, .int .i64 0, .int .i64 e]]) g4 hS k1' rfl rfl rfl (by simp [World.setCell]) r2 r1 (by simp) (by
      simp only [RelL, Rel]
      exact ⟨_, _, rfl, ⟨_, _, rfl, RelAt.mono aa _ _ _ r3⟩, rfl⟩) (by
      intro v hv
      simp only [Array.toList_setIfInBounds, List.set_cons_zero, List.mem_cons, List.not_mem_nil, or_false] at hv
      subst hv; rfl)
  exact ⟨_, .bool true, _, rfl, by simp only [Rel], q1, aa.trans q2, rfl, rfl⟩
/-- proof.Parse. -/
def parseP (s : ByteArray) : StepV × Int := if (parseW (wordsL s)).2 = 0 then ((parseW (wordsL s)).1, 0) else (zeroV, (parseW (wordsL s)).2)
theorem Parse_line_ok (hG : GS G) (hA : GAs G) (s : ByteArray) (hs : s.size ≤ 8999999) (S : St) :
    Triple P (C G) 43 [.str s] S fun o S' => o = .ret (.tu [stepAV (parseP s).1, .int .i64 (parseP s).2]) ∧ S' = S := by
  have hp := fun S => parse_ok (G := G) hG s hs S
  unfold parseP
  generalize parseW (wordsL s) = r at *
  obtain ⟨v, e⟩ := r
  dsimp only at hp ⊢
  refine triple_of_awp (hT G) hm Tryz.func43 rfl (by decide +kernel) rfl (by decide +kernel) (by show 1 ≤ _; decide +kernel) rfl ?_
  refine awp_seq2 fun K hK hQ => ?_
  conv => whnf
  intro b2 hb2
  conv => whnf
  refine hK _ _ ?_
  clear hK hQ K
  have hfin : ∀ (o2 o2' o4 o4' o6 : Own) (b4 b6 : Nat), (S.upd b2 o2) b4 = none → (((S.upd b2 o2).upd b4 o4).upd b4 o4') b6 = none → St.le S (((((S.upd b2 o2).upd b4 o4).upd b4 o4').upd b6 o6).upd b2 o2') := fun o2 o2' o4 o4' o6 b4 b6 hb4 hb6 => by
    rw [St.upd_upd] at hb6 ⊢
    exact St.le_upd (St.le_upd' (St.le_upd' (St.le_upd' (St.le_refl _) hb2 _) hb4 _) hb6 _) hb2 _
  have hfin2 : ∀ (o2 o2' o4 o4' o6 o6' : Own) (b4 b6 : Nat), (S.upd b2 o2) b4 = none → (((S.upd b2 o2).upd b4 o4).upd b4 o4') b6 = none → St.le S ((((((S.upd b2 o2).upd b4 o4).upd b4 o4').upd b6 o6).upd b6 o6').upd b2 o2') := fun o2 o2' o4 o4' o6 o6' b4 b6 hb4 hb6 => by
    rw [St.upd_upd _ b6]
    exact hfin _ _ _ _ _ _ _ hb4 hb6
  refine awp_seq2 fun K hK hQ => ?_
  by_cases he : e = 0
  · simp only [if_pos he] at hK hQ
    simp only [errAV, if_pos he] at hp
    conv => whnf
    refine (hp _).mono ?_
    rintro o S' ⟨rfl, rfl⟩
    conv => whnf
    intro b4 hb4
    conv => whnf
    refine ⟨_, _, St.upd_same _ _ _, ?_⟩
    conv => whnf
    refine hK _ _ ?_
    clear hK hQ K
    refine awp_seq2 fun K hK hQ => ?_
    conv => whnf
    intro b6 hb6
    conv => whnf
    refine hK _ _ ?_
    clear hK hQ K
    refine awp_seq2 fun K hK hQ => ?_
    conv => whnf
    refine (as_ok_nil _ _).mono ?_
    rintro o S' ⟨rfl, rfl⟩
    conv => whnf
    refine hK _ _ ?_
    clear hK hQ K
    conv => whnf
    refine ⟨_, _, St.up hb6 (St.upd_same _ _ _), ?_⟩
    conv => whnf
    refine ⟨_, _, St.up hb6 (by rw [St.upd_upd]; exact St.up hb4 (St.upd_same _ _ _)), ?_⟩
    conv => whnf
    refine ⟨_, _, St.upd_same _ _ _, ?_⟩
    conv => whnf
    refine ⟨_, _, ⟨rfl, rfl⟩, ?_, AV.leS_refl _ _ _⟩
    exact hfin _ _ _ _ _ _ _ hb4 hb6
  · simp only [if_neg he] at hK hQ
    simp only [errAV, if_neg he] at hp
    conv => whnf
    refine (hp _).mono ?_
    rintro o S' ⟨rfl, rfl⟩
    conv => whnf
    intro b4 hb4
    conv => whnf
    refine ⟨_, _, St.upd_same _ _ _, ?_⟩
    conv => whnf
    refine hK _ _ ?_
    clear hK hQ K
    refine awp_seq2 fun K hK hQ => ?_
    conv => whnf
    intro b6 hb6
    conv => whnf
    refine hK _ _ ?_
    clear hK hQ K
    refine awp_seq2 fun K hK hQ => ?_
    conv => whnf
    refine (as_ok_hit hA e (St.upd_same _ _ _)).mono ?_
    rintro o S' ⟨rfl, rfl⟩
    have q2 : ∀ o4 o4' o6 o6' : Own, ((((((S.upd b2 (.obj 54 stepZ)).upd b4 o4).upd b4 o4').upd b6 o6).upd b6 o6') b2 = some (.obj 54 stepZ)) := fun o4 o4' o6 o6' => by
      rw [St.upd_upd, St.upd_upd]
      have n1 : b2 ≠ b4 := (St.ne_upd hb4).symm
      have n2 : b2 ≠ b6 := (St.ne_upd (by rw [St.upd_upd] at hb6; exact St.no hb6)).symm
      exact St.ov n2 (St.ov n1 (St.upd_same _ _ _))
    have n62 : b6 ≠ b2 := St.ne_upd (by rw [St.upd_upd] at hb6; exact St.no hb6)
    refine ⟨[], (.free 0 (.one 1 (.free 2 (.free 3 (.one 4 (.one 5 (.free 6 .done) .none) (.one 5 (.free 4 (.free 6 .done)) .none)))) (.one 5 (.free 1 (.free 2 (.free 3 (.free 4 (.free 6 .done))))) .none))), _, by decide +kernel, ?_, fun _ _ h => ⟨_, .inl rfl, h⟩⟩
    conv => whnf
    refine ⟨?_, ?_⟩
    · refine ⟨_, _, St.upd_same _ _ _, ?_⟩
      conv => whnf
      refine ⟨?_, ?_⟩
      · conv => whnf
        refine ⟨_, _, q2 _ _ _ _, ?_⟩
        conv => whnf
        refine hQ _ _ _ (by simp) ?_
        conv => whnf
        refine ⟨_, _, St.upd_same _ _ _, ?_⟩
        conv => whnf
        refine ⟨_, _, ⟨rfl, rfl⟩, hfin2 _ _ _ _ _ _ _ _ hb4 hb6, ⟨⟨rfl, rfl, rfl, rfl, rfl, rfl, rfl, rfl, rfl, rfl, rfl⟩, rfl, rfl⟩⟩
      · refine ⟨_, _, q2 _ _ _ _, ?_⟩
        conv => whnf
        refine hQ _ _ _ (by simp) ?_
        conv => whnf
        refine ⟨_, _, St.upd_same _ _ _, ?_⟩
        conv => whnf
        refine ⟨_, _, ⟨rfl, rfl⟩, hfin2 _ _ _ _ _ _ _ _ hb4 hb6, ⟨⟨rfl, rfl, rfl, rfl, rfl, rfl, rfl, rfl, rfl, rfl, rfl⟩, rfl, rfl⟩⟩
    · refine ⟨_, _, q2 _ _ _ _, ?_⟩
      conv => whnf
      refine ⟨_, _, St.ov n62 (St.upd_same _ _ _), ?_⟩
      conv => whnf
      refine hQ _ _ _ (by simp) ?_
      conv => whnf
      refine ⟨_, _, St.upd_same _ _ _, ?_⟩
      conv => whnf
      refine ⟨_, _, ⟨rfl, rfl⟩, hfin2 _ _ _ _ _ _ _ _ hb4 hb6, ⟨⟨rfl, rfl, rfl, rfl, rfl, rfl, rfl, rfl, rfl, rfl, rfl⟩, rfl, rfl⟩⟩
end Go.Proofs.YtcpdgnkhkdddhaaGreatDoor.Aw

set_option maxRecDepth 100000
set_option linter.unusedVariables false
set_option linter.unusedSimpArgs false
namespace Go.Proofs.YtcpdgnkhkdddhaaGreatDoor.Aw
open Go Go.RowKit
variable {G : Nat → Option (List AV)}

theorem step_other {S : St} {rb : Nat} {ws0 : List ByteArray} (h : S rb = some (rdO ws0 0)) (hw0 : ∀ w ∈ ws0, w.size ≤ 9000000) (hn0 : ws0.length ≤ 9000000) {w : ByteArray} (hw : ¬ (w = kHead ∨ w = kF ∨ w = kPol ∨ w = kRup ∨ w = kSoli ∨ w = kSolx ∨ w = kE ∨ w = kDel ∨ w = kStar ∨ w = kOut ∨ w = kConc ∨ w = kEnd)) :
    Triple P (C G) 86 [.ref rb 0, .str w] S fun o S' => ∃ v' ws' e', o = .ret (stepAV v') ∧ S' = S.upd rb (rdO ws' e') ∧ ws' <:+ ws0 ∧ Agr v' ws' e' (tabR w ws0) := by
  obtain ⟨R, hR⟩ : ∃ R, tabR w ws0 = R := ⟨_, rfl⟩
  rw [hR]
  refine triple_of_awp (hT G) hm Tryz.func86 rfl (by decide +kernel) rfl (by decide +kernel) (by show 2 ≤ _; decide +kernel) rfl ?_
  refine awp_seq2 fun K hK hQ => ?_
  conv => whnf
  intro b2 hb2
  conv => whnf
  refine hK _ _ ?_
  clear hK hQ K
  refine awp_seq2 fun K hK hQ => ?_
  conv => whnf
  intro b3 hb3
  conv => whnf
  refine hK _ _ ?_
  clear hK hQ K
  have hE : EndS S ((S.upd b2 (.obj 54 stepZ)).upd b3 (.obj 54 stepZ)) rb b2 b3 ws0 0 stepZ :=
    ⟨St.up hb3 (St.up hb2 h), St.upd_same _ _ _, St.up hb3 (St.upd_same _ _ _), fun x p _ h2 => St.up hb3 (St.up hb2 h2), (fun e => by rw [e, h] at hb2; cases hb2), (fun e => by rw [e, St.up hb2 h] at hb3; cases hb3), (fun e => by rw [e, St.upd_same] at hb3; cases hb3), hb2, St.no hb3⟩
  change awp _ _ _ _ ((S.upd b2 (.obj 54 stepZ)).upd b3 (.obj 54 stepZ)) _
  generalize (S.upd b2 (.obj 54 stepZ)).upd b3 (.obj 54 stepZ) = F at *
  clear hb2 hb3
  refine awp_seq2 fun K hK hQ => ?_
  conv => whnf
  simp only [not_or] at hw
  obtain ⟨n0, n1, n2, n3, n4, n5, n6, n7, n8, n9, n10, n11⟩ := hw
  rw [show decide (w = (⟨#[112, 115, 101, 117, 100, 111, 45, 66, 111, 111, 108, 101, 97, 110]⟩ : ByteArray)) = false from decide_eq_false (show ¬ w = kHead from n0)]
  conv => whnf
  rw [show decide (w = (⟨#[102]⟩ : ByteArray)) = false from decide_eq_false (show ¬ w = kF from n1)]
  conv => whnf
  rw [show decide (w = (⟨#[112, 111, 108]⟩ : ByteArray)) = false from decide_eq_false (show ¬ w = kPol from n2)]
  conv => whnf
  rw [show decide (w = (⟨#[114, 117, 112]⟩ : ByteArray)) = false from decide_eq_false (show ¬ w = kRup from n3)]
  conv => whnf
  rw [show decide (w = (⟨#[101]⟩ : ByteArray)) = false from decide_eq_false (show ¬ w = kE from n6)]
  conv => whnf
  rw [show decide (w = (⟨#[115, 111, 108, 105]⟩ : ByteArray)) = false from decide_eq_false (show ¬ w = kSoli from n4)]
  conv => whnf
  rw [show decide (w = (⟨#[115, 111, 108, 120]⟩ : ByteArray)) = false from decide_eq_false (show ¬ w = kSolx from n5)]
  conv => whnf
  rw [show decide (w = (⟨#[100, 101, 108]⟩ : ByteArray)) = false from decide_eq_false (show ¬ w = kDel from n7)]
  conv => whnf
  rw [show decide (w = (⟨#[111, 117, 116, 112, 117, 116]⟩ : ByteArray)) = false from decide_eq_false (show ¬ w = kOut from n9)]
  conv => whnf
  rw [show decide (w = (⟨#[99, 111, 110, 99, 108, 117, 115, 105, 111, 110]⟩ : ByteArray)) = false from decide_eq_false (show ¬ w = kConc from n10)]
  conv => whnf
  rw [show decide (w = (⟨#[101, 110, 100]⟩ : ByteArray)) = false from decide_eq_false (show ¬ w = kEnd from n11)]
  conv => whnf
  unfold tabR tabG at hR
  rw [if_neg n0, if_neg n1, if_neg n2, if_neg n3, if_neg n4, if_neg n5, if_neg n6, if_neg n7, if_neg n8, if_neg n9, if_neg n10, if_neg n11] at hR
  dsimp only at hR
  refine (rfail_ok (G := G) hE.rd 80).mono ?_
  rw [if_pos rfl]
  rintro o T3 ⟨rfl, rfl⟩
  have hE2 := hE.rdr ws0 80
  conv => whnf
  refine hK _ _ ?_
  clear hK hQ K
  conv => whnf
  refine ⟨_, _, hE2.sv, ?_⟩
  conv => whnf
  refine ⟨_, _, hE2.rs, ?_⟩
  conv => whnf
  refine ⟨_, _, St.upd_same _ _ _, ?_⟩
  conv => whnf
  refine ⟨_, _, ⟨zeroV, _, _, rfl, rfl, List.suffix_refl _, by rw [← hR]; exact Agr.of rfl (fun h => absurd (show (80 : Int) = 0 from h) (by decide))⟩, hE2.fin _, ⟨rfl, rfl, rfl, rfl, rfl, rfl, rfl, rfl, rfl, rfl, rfl⟩⟩
theorem step_ok1 {S : St} {rb : Nat} {ws0 : List ByteArray} (h : S rb = some (rdO ws0 0)) (hw0 : ∀ w ∈ ws0, w.size ≤ 9000000) (hn0 : ws0.length ≤ 9000000) {w : ByteArray} (hw : w ≠ kStar) :
    Triple P (C G) 86 [.ref rb 0, .str w] S fun o S' => ∃ v' ws' e', o = .ret (stepAV v') ∧ S' = S.upd rb (rdO ws' e') ∧ ws' <:+ ws0 ∧ Agr v' ws' e' (tabR w ws0) := by
  by_cases h_head : w = kHead
  · exact step_head h hw0 hn0 h_head
  by_cases h_count : w = kF
  · exact step_count h hw0 hn0 h_count
  by_cases h_pol : w = kPol
  · exact step_pol h hw0 hn0 h_pol
  by_cases h_rup : w = kRup
  · exact step_rup h hw0 hn0 h_rup
  by_cases h_soli : w = kSoli
  · exact step_soli h hw0 hn0 h_soli
  by_cases h_solx : w = kSolx
  · exact step_solx h hw0 hn0 h_solx
  by_cases h_same : w = kE
  · exact step_same h hw0 hn0 h_same
  by_cases h_del : w = kDel
  · exact step_del h hw0 hn0 h_del
  by_cases h_output : w = kOut
  · exact step_output h hw0 hn0 h_output
  by_cases h_concl : w = kConc
  · exact step_concl h hw0 hn0 h_concl
  by_cases h_last : w = kEnd
  · exact step_last h hw0 hn0 h_last
  exact step_other h hw0 hn0 (by simp only [not_or]; exact ⟨h_head, h_count, h_pol, h_rup, h_soli, h_solx, h_same, h_del, hw, h_output, h_concl, h_last⟩)
theorem Parse_ref_ok (s : ByteArray) (hs : s.size ≤ 8999999) (S : St) :
    Triple P (C G) 41 [.str s] S fun o S' => o = .ret (.tu [stepAV (parseP s).1, .int .i64 (parseP s).2]) ∧ S' = S := by
  have hwo : OkW (wordsL s) := ⟨fun w hw => Nat.le_trans (wordsL_size s w hw) (by omega), Nat.le_trans (wordsL_len s) (by omega)⟩
  have hwd := Words_ok (G := G) s (by omega)
  unfold parseP
  generalize wordsL s = ws at *
  obtain ⟨PP, hPP⟩ : ∃ p, parseW ws = p := ⟨_, rfl⟩
  rw [hPP]
  refine triple_of_awp (hT G) hm Tryz.func41 rfl (by decide +kernel) rfl (by decide +kernel) (by show 1 ≤ _; decide +kernel) rfl ?_
  refine awp_seq2 fun K hK hQ => ?_
  conv => whnf
  intro b2 hb2
  conv => whnf
  refine hK _ _ ?_
  clear hK hQ K
  refine awp_seq2 fun K hK hQ => ?_
  conv => whnf
  refine (hwd _).mono ?_
  rintro o T ⟨rfl, rfl⟩
  conv => whnf
  intro b4 hb4
  conv => whnf
  refine hK _ _ ?_
  clear hK hQ K hwd
  have q2 : ((S.upd b2 (.obj 54 stepZ)).upd b4 (rdO ws 0)) b2 = some (.obj 54 stepZ) := St.up (p := rdO ws 0) hb4 (St.upd_same S b2 (.obj 54 stepZ))
  have q4 := St.upd_same (S.upd b2 (.obj 54 stepZ)) b4 (rdO ws 0)
  have n42 : b4 ≠ b2 := fun e => by rw [e, St.upd_same] at hb4; cases hb4
  have hle : ∀ X, St.le S (((S.upd b2 (.obj 54 stepZ)).upd b4 (rdO ws 0)).upd b2 X) := fun X x p hx => by
    have h2 : x ≠ b2 := fun e => by rw [e, hb2] at hx; cases hx
    have h4 : x ≠ b4 := fun e => by rw [e, St.no hb4] at hx; cases hx
    rw [St.upd_ne _ _ _ _ h2, St.upd_ne _ _ _ _ h4, St.upd_ne _ _ _ _ h2]; exact hx
  have hle4 : ∀ ws' e' X, St.le S ((((S.upd b2 (.obj 54 stepZ)).upd b4 (rdO ws 0)).upd b4 (rdO ws' e')).upd b2 X) := fun ws' e' X x p hx => by
    have h2 : x ≠ b2 := fun e => by rw [e, hb2] at hx; cases hx
    have h4 : x ≠ b4 := fun e => by rw [e, St.no hb4] at hx; cases hx
    rw [St.upd_ne _ _ _ _ h2, St.upd_ne _ _ _ _ h4, St.upd_ne _ _ _ _ h4, St.upd_ne _ _ _ _ h2]; exact hx
  change awp _ _ _ _ ((S.upd b2 (.obj 54 stepZ)).upd b4 (rdO ws 0)) _
  generalize (S.upd b2 (.obj 54 stepZ)).upd b4 (rdO ws 0) = T at *
  cases ws with
  | nil =>
    conv => whnf
    refine ⟨_, _, q4, ?_⟩
    conv => whnf
    intro _
    conv => whnf
    refine ⟨_, _, q2, ?_⟩
    conv => whnf
    refine ⟨_, _, St.upd_same _ _ _, ?_⟩
    conv => whnf
    have hP1 : PP = ({ zeroV with kind := 7 }, 0) := hPP.symm
    subst hP1
    rw [if_pos rfl]
    refine ⟨_, _, ⟨rfl, rfl⟩, hle _, ⟨⟨rfl, rfl, rfl, rfl, rfl, rfl, rfl, rfl, rfl, rfl, rfl⟩, rfl, rfl⟩⟩
  | cons w l =>
    have ht := rtake_ok1 (G := G) q4
    unfold takeR at ht
    rw [if_pos rfl] at ht
    dsimp only at ht
    have ga : (rowsS (w :: l))[(0 : Int).toNat]? = some [.str w] := rfl
    have hpos : (((rowsS (w :: l)).length : Int) == 0) = false := beq_false_of_ne (by rw [rowsS_len]; simp <;> omega)
    unfold rdO at q4
    generalize rowsS (w :: l) = rr at *
    refine awp_seq2 fun K2 hK2 hQ2 => ?_
    refine awp_seq2 fun K hK hQ => ?_
    refine awp_region ?_
    refine aOps_cut 7 fun K' hK' => ?_
    conv => whnf
    refine ⟨_, _, q4, ?_⟩
    conv => whnf
    intro _
    conv => whnf
    rw [hpos]
    conv => whnf
    refine hK' _ _ ?_
    clear hK' K'
    refine aOps_cut 4 fun K' hK' => ?_
    conv => whnf
    refine ⟨_, _, q4, ?_⟩
    conv => whnf
    refine hK' _ _ ?_
    clear hK' K'
    conv => whnf
    refine ⟨_, ⟨by decide, ga⟩, ?_⟩
    conv => whnf
    refine hK _ _ ?_
    clear hK hQ K
    by_cases hst : w = kStar
    · conv => whnf
      rw [show decide (w = (⟨#[42]⟩ : ByteArray)) = true from decide_eq_true hst]
      subst hst
      conv => whnf
      refine ⟨_, _, q2, ?_⟩
      conv => whnf
      refine hQ2 _ _ _ (by simp) ?_
      conv => whnf
      refine ⟨_, _, St.upd_same _ _ _, ?_⟩
      conv => whnf
      have htk : tabG kStar = some noteG := by
        unfold tabG
        rw [if_neg (by decide), if_neg (by decide), if_neg (by decide), if_neg (by decide), if_neg (by decide), if_neg (by decide), if_neg (by decide), if_neg (by decide), if_pos rfl]
      have hP1 : PP = ({ zeroV with kind := 7 }, 0) := by
        rw [← hPP, parseW_tabR]
        unfold tabR
        rw [htk]
        rfl
      subst hP1
      rw [if_pos rfl]
      refine ⟨_, _, ⟨rfl, rfl⟩, hle _, ?_⟩
      exact ⟨⟨rfl, rfl, rfl, rfl, rfl, rfl, rfl, rfl, rfl, rfl, rfl⟩, rfl, rfl⟩
    · conv => whnf
      rw [show decide (w = (⟨#[42]⟩ : ByteArray)) = false from decide_eq_false hst]
      conv => whnf
      refine hK2 _ _ ?_
      clear hK2 hQ2 K2
      rw [parseW_tabR] at hPP
      have hsl : ∀ y ∈ l, y.size ≤ 9000000 := fun y hy => hwo.1 y (by simp [hy])
      have hln : l.length ≤ 9000000 := by have := hwo.2; simp at this; omega
      have p4 := St.upd_same T b4 (rdO l 0)
      have hs := step_ok1 (G := G) p4 hsl hln hst
      rw [hPP.symm]
      conv => whnf
      refine ht.mono ?_
      rintro o T2 ⟨rfl, rfl⟩
      conv => whnf
      refine hs.mono ?_
      rintro o T2 ⟨v', ws', e', rfl, rfl, sf, hag⟩
      rw [St.upd_upd]
      have hr := rest_ok (G := G) (St.upd_same T b4 (rdO ws' e'))
      obtain ⟨hag1, hag2⟩ := hag
      rw [hag1, St.upd_upd] at hr
      generalize hFF : finG (tabR w l) = FF at *
      generalize hRR : tabR w l = RR at *
      conv => whnf
      intro b7 hb7
      conv => whnf
      refine ⟨_, _, St.upd_same _ _ _, ?_⟩
      conv => whnf
      rw [St.upd_upd]
      have hb7' : T.upd b4 (rdO ws' FF.2) b7 = none := by
        by_cases e : b7 = b4
        · subst e; rw [St.upd_same] at hb7; cases hb7
        · rw [St.upd_ne _ _ _ _ e] at hb7 ⊢; exact hb7
      have n74 : b7 ≠ b4 := fun e => by rw [e, St.upd_same] at hb7; cases hb7
      have n72 : b7 ≠ b2 := fun e => by rw [e, St.ov n42.symm q2] at hb7; cases hb7
      have hr := rest_ok (G := G) (S := (T.upd b4 (rdO ws' e')).upd b7 (.obj 54 [.int .i64 v'.kind, .str v'.num, .sl .any 3 (rowsO v'.ops), .sl .any 2 (rowsP v'.pieces), .str v'.bound, .sl .any 1 (rowsI v'.lits), .sl .any 1 (rowsS v'.ids), .int .i64 v'.n6, .str v'.s7, .str v'.s8])) (St.ov n74.symm (St.upd_same _ _ _))
      rw [hag1, St.upd_comm n74, St.upd_upd] at hr
      refine hr.mono ?_
      rintro o T2 ⟨rfl, rfl⟩
      have p4 : ((T.upd b4 (rdO ws' FF.2)).upd b7 (.obj 54 [.int .i64 v'.kind, .str v'.num, .sl .any 3 (rowsO v'.ops), .sl .any 2 (rowsP v'.pieces), .str v'.bound, .sl .any 1 (rowsI v'.lits), .sl .any 1 (rowsS v'.ids), .int .i64 v'.n6, .str v'.s7, .str v'.s8])) b4 = some (rdO ws' FF.2) := St.ov n74.symm (St.upd_same _ _ _)
      have p2 : ((T.upd b4 (rdO ws' FF.2)).upd b7 (.obj 54 [.int .i64 v'.kind, .str v'.num, .sl .any 3 (rowsO v'.ops), .sl .any 2 (rowsP v'.pieces), .str v'.bound, .sl .any 1 (rowsI v'.lits), .sl .any 1 (rowsS v'.ids), .int .i64 v'.n6, .str v'.s7, .str v'.s8])) b2 = some (.obj 54 stepZ) := St.ov n72.symm (St.ov n42.symm q2)
      have p7 : ((T.upd b4 (rdO ws' FF.2)).upd b7 (.obj 54 [.int .i64 v'.kind, .str v'.num, .sl .any 3 (rowsO v'.ops), .sl .any 2 (rowsP v'.pieces), .str v'.bound, .sl .any 1 (rowsI v'.lits), .sl .any 1 (rowsS v'.ids), .int .i64 v'.n6, .str v'.s7, .str v'.s8])) b7 = some (.obj 54 [.int .i64 v'.kind, .str v'.num, .sl .any 3 (rowsO v'.ops), .sl .any 2 (rowsP v'.pieces), .str v'.bound, .sl .any 1 (rowsI v'.lits), .sl .any 1 (rowsS v'.ids), .int .i64 v'.n6, .str v'.s7, .str v'.s8]) := St.upd_same _ _ _
      have hle7 : ∀ X, St.le S (((T.upd b4 (rdO ws' FF.2)).upd b7 (.obj 54 [.int .i64 v'.kind, .str v'.num, .sl .any 3 (rowsO v'.ops), .sl .any 2 (rowsP v'.pieces), .str v'.bound, .sl .any 1 (rowsI v'.lits), .sl .any 1 (rowsS v'.ids), .int .i64 v'.n6, .str v'.s7, .str v'.s8])).upd b2 X) := fun X x p hx => by
        by_cases h7 : x = b7
        · have := hle4 ws' FF.2 X _ _ hx
          rw [h7, St.upd_ne _ _ _ _ n72, hb7'] at this; cases this
        · have := hle4 ws' FF.2 X _ _ hx
          by_cases h2 : x = b2
          · rw [h2, St.upd_same] at this ⊢; exact this
          · rw [St.upd_ne _ _ _ _ h2] at this ⊢
            rw [St.upd_ne _ _ _ _ h7]; exact this
      generalize (T.upd b4 (rdO ws' FF.2)).upd b7 (.obj 54 [.int .i64 v'.kind, .str v'.num, .sl .any 3 (rowsO v'.ops), .sl .any 2 (rowsP v'.pieces), .str v'.bound, .sl .any 1 (rowsI v'.lits), .sl .any 1 (rowsS v'.ids), .int .i64 v'.n6, .str v'.s7, .str v'.s8]) = T7 at *
      conv => whnf
      refine ⟨_, _, p4, ?_⟩
      conv => whnf
      by_cases he : FF.2 = 0
      · rw [he]
        conv => whnf
        refine ⟨_, _, p7, ?_⟩
        conv => whnf
        refine ⟨_, _, p2, ?_⟩
        conv => whnf
        refine ⟨_, _, St.upd_same _ _ _, ?_⟩
        conv => whnf
        refine ⟨_, _, ⟨rfl, rfl⟩, hle7 _, ?_⟩
        have e1 : FF.1 = v' := by rw [hag2 he, ← hFF]; rfl
        rw [if_pos rfl, e1]
        exact AV.leS_refl _ _ _
      · rw [show (FF.2 != 0) = true from by simpa using he]
        conv => whnf
        refine ⟨[], (.free 0 (.free 1 (.free 2 (.free 3 (.one 4 (.one 5 (.free 6 .done) .none) (.one 5 (.free 4 (.free 6 .done)) .none)))))), _, by decide +kernel, ?_, fun _ _ h => ⟨_, .inl rfl, h⟩⟩
        conv => whnf
        refine ⟨?_, ?_⟩
        · refine ⟨_, _, p4, ?_⟩
          conv => whnf
          refine ⟨_, _, p2, ?_⟩
          conv => whnf
          refine ⟨_, _, St.upd_same _ _ _, ?_⟩
          conv => whnf
          refine ⟨_, _, ⟨rfl, rfl⟩, hle7 _, ?_⟩
          rw [if_neg he]
          exact ⟨⟨rfl, rfl, rfl, rfl, rfl, rfl, rfl, rfl, rfl, rfl, rfl⟩, rfl, rfl⟩
        · refine ⟨_, _, p2, ?_⟩
          conv => whnf
          refine ⟨_, _, St.ov n42 p4, ?_⟩
          conv => whnf
          refine ⟨_, _, St.upd_same _ _ _, ?_⟩
          conv => whnf
          refine ⟨_, _, ⟨rfl, rfl⟩, hle7 _, ?_⟩
          rw [if_neg he]
          exact ⟨⟨rfl, rfl, rfl, rfl, rfl, rfl, rfl, rfl, rfl, rfl, rfl⟩, rfl, rfl⟩
end Go.Proofs.YtcpdgnkhkdddhaaGreatDoor.Aw

set_option maxRecDepth 100000
set_option linter.unusedVariables false
namespace Go.Proofs.YtcpdgnkhkdddhaaGreatDoor.Aw
open Go Go.RowKit
variable {G : Nat → Option (List AV)}

theorem AccOk.oth {S S₁ : St} {e : TypeId} {k b n : Nat} (h : AccOk S S₁ e k b n) {b0 : Nat} (hb : S₁ b0 = none) (o : Own) : AccOk S (S₁.upd b0 o) e k b n :=
  ⟨St.le_upd' h.le hb o, fun hn => by rw [St.upd_ne _ _ _ _ (fun e => by rw [← e, h.tip hn] at hb; cases hb)]; exact h.tip hn, h.new⟩
def refLinesGo (s : ByteArray) (i fr : Nat) (acc : List ByteArray) : List ByteArray :=
  if h : i < s.size then
    if byteAt s i = 10 then refLinesGo s (i+1) (i+1) (acc ++ [s.extract fr i]) else refLinesGo s (i+1) fr acc
  else if fr < s.size then acc ++ [s.extract fr s.size] else acc
termination_by s.size - i

set_option maxHeartbeats 1000000 in
theorem refLines_ok (s : ByteArray) (hs : s.size ≤ 100000000) (S : St) :
    Triple P (C G) 62 [.str s] S fun o S' => o = .ret (.sl .any 1 (rowsS (refLinesGo s 0 0 []))) ∧ S' = S := by
  refine triple_of_awp (hT G) hm Tryz.func62 rfl (by decide +kernel) rfl (by decide +kernel) (by show 1 ≤ _; decide +kernel) rfl ?_
  conv => whnf
  refine ⟨⟨Nat × Nat × List ByteArray × Nat, fun (i, fr, acc, b) => [(0, .str s), (3, .sl (.acc b) 1 (rowsS acc)), (4, .int .i64 (fr : Int)), (5, .int .i64 (i : Int))],
    fun (i, fr, acc, b) S' => AccOk S S' 9 1 b acc.length ∧ i ≤ s.size ∧ fr ≤ i ∧ acc.length ≤ i ∧ refLinesGo s i fr acc = refLinesGo s 0 0 [],
    fun (i, _, _, _) => s.size - i⟩, ⟨(0, 0, [], 0), ⟨rfl, rfl, rfl, rfl, trivial⟩, S, St.leW_refl _, ?_⟩, ?_⟩
  · exact ⟨AccOk.init .., by omega, by omega, by simp, rfl⟩
  · rintro ⟨(i : Nat), (fr : Nat), (acc : List ByteArray), (b : Nat)⟩ S₁ ⟨h1, h3, h4, h5, h6⟩
    have w1 : IntKind.i64.wrap ((i : Int) + 1) = ((i + 1 : Nat) : Int) := wrap_nat (by omega)
    conv => whnf
    refine split_of (fun hlt => ?_) (fun hlt => ?_)
    · have hlt : i < s.size := by simpa using hlt
      conv => whnf
      refine ⟨by omega, ?_⟩
      conv => whnf
      refine split_of (fun hc => ?_) (fun hc => ?_)
      · have hc : byteAt s i = 10 := by simpa using hc
        conv => whnf
        refine ⟨by omega, ?_⟩
        conv => whnf
        intro b0 hb0
        conv => whnf
        have h2 := h1.oth hb0 (.tip 9 1 1)
        refine ⟨⟨fun h => by have := h2.tip (List.length_pos_iff.2 (fun e => h (by rw [e]; rfl))); rw [show (rowsS acc).length = acc.length from by simp [rowsS]]; exact this, by show _ * 16 ≤ _; simp [rowsS]; omega⟩, ?_⟩
        conv => whnf
        intro S₂ k1 k2 b' hb'
        conv => whnf
        have e1 : rowsS acc ++ [[AV.str (s.extract fr i)]] = rowsS (acc ++ [s.extract fr i]) := by simp [rowsS]
        refine ⟨(i + 1, i + 1, acc ++ [s.extract fr i], b'), ⟨rfl, congrArg _ e1, congrArg _ w1, congrArg _ w1, trivial⟩, ⟨_, St.leW_refl _, h2.push (es := rowsS acc) (by simp [rowsS]) k1 k2 hb' (by simp [rowsS]), by omega, by omega, by simp; omega, ?_⟩, by show s.size - (i + 1) < s.size - i; omega⟩
        · rw [← h6]; conv => rhs; unfold refLinesGo
          rw [dif_pos hlt, if_pos hc]
      · have hc : ¬ byteAt s i = 10 := by simpa using hc
        conv => whnf
        refine ⟨(i + 1, fr, acc, b), ⟨rfl, rfl, rfl, congrArg _ w1, trivial⟩, ⟨_, St.leW_refl _, h1, by omega, by omega, by omega, ?_⟩, by show s.size - (i + 1) < s.size - i; omega⟩
        rw [← h6]; conv => rhs; unfold refLinesGo
        rw [dif_pos hlt, if_neg hc]
    · have hlt : ¬ i < s.size := by simpa using hlt
      obtain rfl : i = s.size := by omega
      conv => whnf
      refine split_of (fun hlt2 => ?_) (fun hlt2 => ?_)
      · have hlt2 : fr < s.size := by simpa using hlt2
        have h6' : refLinesGo s 0 0 [] = acc ++ [s.extract fr s.size] := by
          rw [← h6]; unfold refLinesGo; rw [dif_neg hlt, if_pos hlt2]
        conv => whnf
        refine ⟨by omega, ?_⟩
        conv => whnf
        intro b0 hb0
        conv => whnf
        have h2 := h1.oth hb0 (.tip 9 1 1)
        refine ⟨⟨fun h => by have := h2.tip (List.length_pos_iff.2 (fun e => h (by rw [e]; rfl))); rw [show (rowsS acc).length = acc.length from by simp [rowsS]]; exact this, by show _ * 16 ≤ _; simp [rowsS]; omega⟩, ?_⟩
        conv => whnf
        intro S₂ k1 k2 b' hb'
        conv => whnf
        rw [h6']
        refine ⟨_, S, ⟨rfl, rfl⟩, ?_, rfl, ?_⟩
        · exact (h2.push (es := rowsS acc) (by simp [rowsS]) k1 k2 hb' rfl).le
        · simp [rowsS]
      · have hlt2 : ¬ fr < s.size := by simpa using hlt2
        have h6' : refLinesGo s 0 0 [] = acc := by
          rw [← h6]; unfold refLinesGo; rw [dif_neg hlt, if_neg hlt2]
        conv => whnf
        rw [h6']
        exact ⟨_, S, ⟨rfl, rfl⟩, h1.le, rfl, rfl⟩
end Go.Proofs.YtcpdgnkhkdddhaaGreatDoor.Aw

set_option linter.unusedVariables false
set_option linter.unusedSimpArgs false
namespace Go.Proofs.YtcpdgnkhkdddhaaGreatDoor.Aw
open Go Go.RowKit

def nlL : List UInt8 → List (List UInt8)
  | [] => [[]]
  | c :: r => if c = 10 then [] :: nlL r else match nlL r with | [] => [[c]] | x :: xs => (c :: x) :: xs
theorem nlL_ne : ∀ s, nlL s ≠ []
  | [] => by simp [nlL]
  | c :: r => by
    unfold nlL
    split
    · simp
    · split <;> simp
theorem splitK_nl : ∀ (s : List UInt8) (k : Nat), s.count 10 ≤ k → Lib.splitK [10] 0 k s = nlL s
  | [], k, _ => by
    cases k with
    | zero => rfl
    | succ k => simp [Lib.splitK, Lib.index_one, Lib.indexByte, nlL]
  | c :: r, k, h => by
    by_cases hc : c = 10
    · subst hc
      cases k with
      | zero => simp at h
      | succ k =>
        have ih := splitK_nl r k (by simp at h; omega)
        simp [Lib.splitK, Lib.index_one, Lib.indexByte, nlL, ih]
    · have hcnt : (c :: r).count 10 = r.count 10 := by rw [List.count_cons_of_ne hc]
      rw [hcnt] at h
      have ih := splitK_nl r k h
      unfold nlL
      rw [if_neg hc, ← ih]
      cases k with
      | zero => rfl
      | succ k =>
        have hge := Lib.indexByte_ge r 10
        by_cases hi : Lib.indexByte r 10 = -1
        · simp [Lib.splitK, Lib.index_one, Lib.indexByte, hc, hi]
        · have e1 : (Lib.indexByte r 10 + 1 == -1) = false := by simp; omega
          have e2 : (Lib.indexByte r 10 + 1).toNat = (Lib.indexByte r 10).toNat + 1 := by omega
          simp [Lib.splitK, Lib.index_one, Lib.indexByte, hc, hi, e1, e2]
def preL (cur : List UInt8) : List (List UInt8) → List (List UInt8)
  | [] => [cur]
  | x :: xs => (cur ++ x) :: xs
def trimL (l : List (List UInt8)) : List (List UInt8) := if l[l.length - 1]? = some [] then l.take (l.length - 1) else l
theorem trimL_cons (x : List UInt8) (l : List (List UInt8)) (h : l ≠ []) : trimL (x :: l) = x :: trimL l := by
  obtain ⟨y, ys, rfl⟩ := List.exists_cons_of_ne_nil h
  simp only [trimL, List.length_cons, Nat.add_sub_cancel, List.getElem?_cons_succ]
  split <;> simp
theorem preL_nil {L : List (List UInt8)} (h : L ≠ []) : preL [] L = L := by
  obtain ⟨y, ys, rfl⟩ := List.exists_cons_of_ne_nil h
  simp [preL]
theorem preL_more (cur : List UInt8) (c : UInt8) (hc : c ≠ 10) (r : List UInt8) : preL (cur ++ [c]) (nlL r) = preL cur (nlL (c :: r)) := by
  obtain ⟨y, ys, hy⟩ := List.exists_cons_of_ne_nil (nlL_ne r)
  simp [nlL, hc, hy, preL]
theorem refLinesGo_data (s : ByteArray) : ∀ (n i fr : Nat) (acc : List ByteArray), s.size - i = n → fr ≤ i → i ≤ s.size →
    (refLinesGo s i fr acc).map (·.data.toList) = acc.map (·.data.toList) ++ trimL (preL ((s.data.toList.drop fr).take (i - fr)) (nlL (s.data.toList.drop i)))
  | 0, i, fr, acc, hn, h1, h2 => by
    have hi : i = s.size := by omega
    have hlen : s.data.toList.length = s.size := by simp
    unfold refLinesGo
    rw [dif_neg (by omega)]
    have hd : s.data.toList.drop i = [] := List.drop_eq_nil_of_le (by omega)
    have ht : (s.data.toList.drop fr).take (i - fr) = s.data.toList.drop fr := List.take_of_length_le (by rw [List.length_drop]; omega)
    rw [hd, ht]
    by_cases hf : fr < s.size
    · rw [if_pos hf]
      have hne : s.data.toList.drop fr ≠ [] := fun e => by
        have := congrArg List.length e
        rw [List.length_drop] at this
        simp at this
        omega
      simp only [List.map_append, List.map_cons, List.map_nil, nlL, preL, List.append_nil, trimL, List.length_singleton, Nat.sub_self, List.getElem?_cons_zero, Option.some.injEq]
      rw [if_neg hne, Lib.extract_to_end]
    · rw [if_neg hf]
      have he : s.data.toList.drop fr = [] := List.drop_eq_nil_of_le (by omega)
      simp [nlL, preL, trimL, he]
  | n + 1, i, fr, acc, hn, h1, h2 => by
    have hlt : i < s.size := by omega
    have hlen : s.data.toList.length = s.size := by simp
    have hdrop : s.data.toList.drop i = s.data.toList[i] :: s.data.toList.drop (i + 1) := List.drop_eq_getElem_cons (by omega)
    unfold refLinesGo
    rw [dif_pos hlt]
    have hby : byteAt s i = (s.data.toList[i].toNat : Int) := by
      simp only [byteAt, List.getD_eq_getElem?_getD, List.getElem?_eq_getElem (show i < s.data.toList.length by omega), Option.getD_some]
    by_cases hb : byteAt s i = 10
    · rw [if_pos hb]
      have hc : s.data.toList[i] = 10 := by
        rw [hby] at hb
        exact UInt8.toNat_inj.1 (by have : s.data.toList[i].toNat = 10 := by omega
                                    rw [this]; rfl)
      rw [refLinesGo_data s n (i + 1) (i + 1) _ (by omega) (Nat.le_refl _) (by omega), hdrop, hc, Nat.sub_self, List.take_zero, preL_nil (nlL_ne _)]
      rw [show nlL (10 :: s.data.toList.drop (i + 1)) = [] :: nlL (s.data.toList.drop (i + 1)) from by simp [nlL]]
      simp only [preL, List.append_nil, List.map_append, List.map_cons, List.map_nil]
      rw [trimL_cons _ _ (nlL_ne _), Lib.extract_data, List.append_assoc]
      rfl
    · rw [if_neg hb]
      have hc : s.data.toList[i] ≠ 10 := fun e => hb (by rw [hby, e]; rfl)
      rw [refLinesGo_data s n (i + 1) fr _ (by omega) (by omega) (by omega), hdrop, ← preL_more _ _ hc]
      have hcur : (s.data.toList.drop fr).take (i + 1 - fr) = (s.data.toList.drop fr).take (i - fr) ++ [s.data.toList[i]] := by
        rw [show i + 1 - fr = (i - fr) + 1 by omega, List.take_add_one, List.getElem?_drop, show fr + (i - fr) = i by omega, List.getElem?_eq_getElem (show i < s.data.toList.length by omega)]
        rfl
      rw [hcur]
theorem bytes_inj {a b : ByteArray} (h : a.data.toList = b.data.toList) : a = b := by
  obtain ⟨⟨a⟩⟩ := a
  obtain ⟨⟨b⟩⟩ := b
  simp at h
  rw [h]
theorem maps_inj : ∀ {a b : List ByteArray}, a.map (·.data.toList) = b.map (·.data.toList) → a = b
  | [], [], _ => rfl
  | [], _ :: _, h => by simp at h
  | _ :: _, [], h => by simp at h
  | x :: a, y :: b, h => by
    simp only [List.map_cons, List.cons.injEq] at h
    rw [bytes_inj h.1, maps_inj h.2]
theorem lines_law (s : ByteArray) : linesOf s = refLinesGo s 0 0 [] := by
  apply maps_inj
  rw [refLinesGo_data s _ 0 0 [] rfl (Nat.le_refl _) (Nat.zero_le _)]
  have hs : (splitS s sepNL).map (·.data.toList) = nlL s.data.toList := by
    rw [splitS, Lib.splitB_data]
    exact splitK_nl _ _ (by rw [← Lib.count_one]; exact Nat.le_refl _)
  simp only [List.map_nil, List.nil_append, Nat.sub_self, List.take_zero, List.drop_zero]
  rw [preL_nil (nlL_ne _), ← hs]
  have hl : ((splitS s sepNL).map (·.data.toList)).length = (splitS s sepNL).length := by simp
  unfold linesOf trimL
  simp only [hl, List.getElem?_map]
  cases hx : (splitS s sepNL)[(splitS s sepNL).length - 1]? with
  | none => simp
  | some x =>
    by_cases he : x = ⟨#[]⟩
    · subst he
      simp
    · have he' : x.data.toList ≠ [] := fun e => he (bytes_inj (by rw [e]))
      simp [he, he']
end Go.Proofs.YtcpdgnkhkdddhaaGreatDoor.Aw

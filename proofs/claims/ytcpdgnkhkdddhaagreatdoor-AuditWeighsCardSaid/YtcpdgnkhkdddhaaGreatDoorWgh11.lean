/-
  hallmarkref1.Parse, walked.
  Package hallmarkref8: isNumber, Lit; hallmarkref2.IsLit.
  hallmarkref8.Lit, walked: it is litV.
  Package proof, walked: words; the reader's small functions.
  Plain: the reference's words are the program's.
  Contracts of package proof's reader: fail, take, next, end.
-/
import Derived.Test.YtcpdgnkhkdddhaaGreatDoorWgh10
import Derived.Test.YtcpdgnkhkdddhaaGreatDoorWgh8
set_option maxRecDepth 100000
set_option linter.unusedVariables false
set_option linter.unusedSimpArgs false
namespace Go.Proofs.YtcpdgnkhkdddhaaGreatDoor.Aw
open Go Go.RowKit
variable {G : Nat → Option (List AV)}

def ri0 : List AV := [.bool false, .nils]
theorem byteAt_cons (c : UInt8) (r : List UInt8) : byteAt ⟨(c :: r).toArray⟩ 0 = (c.toNat : Int) := by simp [byteAt]
theorem byteAt_get (d : List UInt8) (i : Nat) (h : i < d.length) : byteAt ⟨d.toArray⟩ i = ((d[i].toNat : Nat) : Int) := by simp [byteAt, h]
theorem size_arr (d : List UInt8) : (⟨d.toArray⟩ : ByteArray).size = d.length := by simp [ByteArray.size]
theorem Parse1_s (l : List UInt8) (hl : l.length ≤ 9000000) (S : St) : Triple P (C G) 137 [.str ⟨l.toArray⟩] S fun o S' => o = .ret (.tu [refI ((parseI l).getD 0), .bool (parseI l).isSome]) ∧ S' = S := by
  have hsz := size_arr l
  refine triple_of_awp (hT G) hm Tryz.func137 rfl (by decide +kernel) rfl (by decide +kernel) (by show 1 ≤ _; decide +kernel) rfl ?_
  refine awp_seq2 fun K hK hQ => ?_
  conv => whnf
  intro b2 hb2
  conv => whnf
  refine hK _ _ ?_
  clear hK hQ K
  have q2 := St.upd_same S b2 (.obj 235 [.bool false, .nils])
  have hle2 := St.le_upd' (St.le_refl S) hb2 (.obj 235 [.bool false, .nils])
  generalize S.upd b2 (.obj 235 [.bool false, .nils]) = S2 at *
  cases l with
  | nil =>
    have hnone : parseI [] = none := by decide
    refine awp_seq2 fun K hK hQ => ?_
    conv => whnf
    refine hK _ _ ?_
    clear hK hQ K
    refine awp_seq2 fun K hK hQ => ?_
    conv => whnf
    refine hK _ _ ?_
    clear hK hQ K
    refine awp_seq2 fun K hK hQ => ?_
    conv => whnf
    refine hK _ _ ?_
    clear hK hQ K
    refine awp_seq2 fun K hK hQ => ?_
    conv => whnf
    refine ⟨_, _, q2, ?_⟩
    conv => whnf
    refine hQ _ _ _ (by simp) ?_
    conv => whnf
    refine ⟨_, _, St.upd_same _ _ _, ?_⟩
    conv => whnf
    refine ⟨_, _, ⟨rfl, rfl⟩, St.le_upd hle2 hb2 _, ?_⟩
    rw [hnone]
    exact ⟨⟨rfl, rfl, rfl⟩, rfl, rfl⟩
  | cons c r =>
    have hby : byteAt ⟨(c :: r).toArray⟩ (0 : Int).toNat = (c.toNat : Int) := byteAt_cons c r
    have hsl : ((⟨(c :: r).toArray⟩ : ByteArray).size : Int) > 0 := by rw [hsz]; simp
    by_cases hc : c = 45
    · subst hc
      have hex : (⟨((45 : UInt8) :: r).toArray⟩ : ByteArray).extract (1 : Int).toNat ((⟨((45 : UInt8) :: r).toArray⟩ : ByteArray).size : Int).toNat = ⟨r.toArray⟩ := by rw [extract_list, hsz]; simp
      have hpre : Lib.hasPrefix ((45 : UInt8) :: r) [45] = true := by simp [Lib.hasPrefix, List.isPrefixOf]
      have htr : Lib.trimPrefix ((45 : UInt8) :: r) [45] = r := by unfold Lib.trimPrefix; rw [if_pos hpre]; rfl
      have hrl : r.length ≤ 9000000 := by simp at hl; omega
      refine awp_seq2 fun K hK hQ => ?_
      conv => whnf
      rw [show decide (((⟨((45 : UInt8) :: r).toArray⟩ : ByteArray).size : Int) > 0) = true from decide_eq_true hsl]
      conv => whnf
      refine ⟨⟨by decide, hsl⟩, ?_⟩
      conv => whnf
      rw [show (byteAt ⟨((45 : UInt8) :: r).toArray⟩ (0 : Int).toNat == 45) = true from by rw [hby]; rfl]
      refine hK _ _ ?_
      clear hK hQ K
      refine awp_seq2 fun K hK hQ => ?_
      conv => whnf
      refine hK _ _ ?_
      clear hK hQ K
      refine awp_seq2 fun K hK hQ => ?_
      conv => whnf
      refine ⟨⟨by decide, by omega, by omega⟩, ?_⟩
      conv => whnf
      rw [hex]
      refine hK _ _ ?_
      clear hK hQ K
      cases r with
      | nil =>
        have hnone : parseI [45] = none := by decide
        refine awp_seq2 fun K hK hQ => ?_
        conv => whnf
        refine ⟨_, _, q2, ?_⟩
        conv => whnf
        refine hQ _ _ _ (by simp) ?_
        conv => whnf
        refine ⟨_, _, St.upd_same _ _ _, ?_⟩
        conv => whnf
        refine ⟨_, _, ⟨rfl, rfl⟩, St.le_upd hle2 hb2 _, ?_⟩
        rw [hnone]
        exact ⟨⟨rfl, rfl, rfl⟩, rfl, rfl⟩
      | cons e r' =>
        have hsr := size_arr (e :: r')
        have hby2 : byteAt ⟨(e :: r').toArray⟩ (0 : Int).toNat = (e.toNat : Int) := byteAt_cons e r'
        by_cases he : e = 48
        · subst he
          have hnone : parseI (45 :: 48 :: r') = none := by
            unfold parseI
            rw [htr]
            exact if_pos (.inr (.inl ⟨rfl, by simp⟩))
          refine awp_seq2 fun K hK hQ => ?_
          conv => whnf
          rw [show (((⟨((48 : UInt8) :: r').toArray⟩ : ByteArray).size : Int) == 0) = false from by rw [hsr]; exact beq_false_of_ne (by simp <;> omega)]
          conv => whnf
          refine ⟨⟨by decide, by rw [hsr]; simp <;> omega⟩, ?_⟩
          conv => whnf
          rw [show (byteAt ⟨((48 : UInt8) :: r').toArray⟩ (0 : Int).toNat == 48) = true from by rw [hby2]; rfl]
          conv => whnf
          by_cases hr' : decide (((⟨((48 : UInt8) :: r').toArray⟩ : ByteArray).size : Int) > 1) = true
          · rw [hr']
            conv => whnf
            refine ⟨_, _, q2, ?_⟩
            conv => whnf
            refine hQ _ _ _ (by simp) ?_
            conv => whnf
            refine ⟨_, _, St.upd_same _ _ _, ?_⟩
            conv => whnf
            refine ⟨_, _, ⟨rfl, rfl⟩, St.le_upd hle2 hb2 _, ?_⟩
            rw [hnone]
            exact ⟨⟨rfl, rfl, rfl⟩, rfl, rfl⟩
          · rw [show decide (((⟨((48 : UInt8) :: r').toArray⟩ : ByteArray).size : Int) > 1) = false from by simpa using hr']
            conv => whnf
            refine ⟨_, _, q2, ?_⟩
            conv => whnf
            refine hQ _ _ _ (by simp) ?_
            conv => whnf
            refine ⟨_, _, St.upd_same _ _ _, ?_⟩
            conv => whnf
            refine ⟨_, _, ⟨rfl, rfl⟩, St.le_upd hle2 hb2 _, ?_⟩
            rw [hnone]
            exact ⟨⟨rfl, rfl, rfl⟩, rfl, rfl⟩
        · refine awp_seq2 fun K hK hQ => ?_
          conv => whnf
          rw [show (((⟨(e :: r').toArray⟩ : ByteArray).size : Int) == 0) = false from by rw [hsr]; exact beq_false_of_ne (by simp <;> omega)]
          conv => whnf
          refine ⟨⟨by decide, by rw [hsr]; simp <;> omega⟩, ?_⟩
          conv => whnf
          have hbe : (byteAt ⟨(e :: r').toArray⟩ (0 : Int).toNat == 48) = false := by
            rw [hby2]
            refine beq_false_of_ne fun h => he (UInt8.toNat_inj.1 ?_)
            have h48 : (48 : UInt8).toNat = 48 := rfl
            omega
          rw [hbe]
          conv => whnf
          refine hK _ _ ?_
          clear hK hQ K
          have hP : parseI (45 :: e :: r') = if (e :: r').all digitB = true then some (-(decV (e :: r') : Int)) else none := by
            unfold parseI
            rw [htr, hpre]
            dsimp only
            by_cases ha : (e :: r').all digitB = true
            · rw [if_pos ha, if_neg (by rintro (h | h | h); cases h; exact he (by simpa using h.1); rw [ha] at h; cases h)]
              rfl
            · rw [if_neg ha, if_pos (.inr (.inr (by simpa using ha)))]
          generalize e :: r' = d at *
          refine awp_seq2 fun K hK hQ => ?_
          conv => whnf
          refine ⟨⟨Nat, fun i => [(2, .ref b2 0), (4, .bool true), (5, .str ⟨d.toArray⟩), (6, .int .i64 (i : Int))], fun i S' => S' = S2 ∧ i ≤ d.length ∧ ∀ j (h : j < d.length), j < i → digitB d[j] = true, fun i => d.length - i⟩,
            ⟨0, ⟨rfl, rfl, rfl, rfl, trivial⟩, _, St.leW_refl _, rfl, by omega, fun j h hj => by omega⟩, ?_⟩
          rintro (i : Nat) S' ⟨rfl, hi, hdg⟩
          conv => whnf
          refine split_of (fun hlt => ?_) (fun hlt => ?_)
          · have hlt : i < d.length := by have := of_decide_eq_true hlt; rw [size_arr] at this; omega
            have hbi : byteAt ⟨d.toArray⟩ (i : Int).toNat = ((d[i].toNat : Nat) : Int) := byteAt_get d i hlt
            have hnd : digitB d[i] = false → d.all digitB = false := fun h => by
              cases ha : d.all digitB with
              | false => rfl
              | true => rw [List.all_eq_true.1 ha _ (List.getElem_mem hlt)] at h; cases h
            have hdi : digitB d[i] = (decide (48 ≤ d[i].toNat) && decide (d[i].toNat ≤ 57)) := rfl
            have hnx : digitB d[i] = true → ∀ j (h : j < d.length), j < i + 1 → digitB d[j] = true := fun h j hj hji => by
              by_cases e : j = i
              · subst e; exact h
              · exact hdg j hj (by omega)
            have w1 : IntKind.i64.wrap ((i : Int) + 1) = ((i + 1 : Nat) : Int) := wrap_nat (by omega)
            generalize hgx : d[i] = x at *
            conv => whnf
            refine ⟨⟨by omega, by rw [size_arr]; omega⟩, ?_⟩
            conv => whnf
            rw [hbi]
            by_cases hx1 : x.toNat < 48
            · have hnone := hP.trans (if_neg (by rw [hnd (by rw [hdi, decide_eq_false (by omega)]; rfl)]; decide))
              rw [show decide (((x.toNat : Nat) : Int) < 48) = true from decide_eq_true (by omega)]
              conv => whnf
              refine ⟨_, _, q2, ?_⟩
              conv => whnf
              refine hQ _ _ _ (by simp) ?_
              conv => whnf
              refine ⟨_, _, St.upd_same _ _ _, ?_⟩
              conv => whnf
              refine ⟨_, _, ⟨rfl, rfl⟩, St.le_upd hle2 hb2 _, ?_⟩
              rw [hnone]
              exact ⟨⟨rfl, rfl, rfl⟩, rfl, rfl⟩
            · rw [show decide (((x.toNat : Nat) : Int) < 48) = false from decide_eq_false (by omega)]
              conv => whnf
              refine ⟨⟨by omega, by rw [size_arr]; omega⟩, ?_⟩
              conv => whnf
              rw [hbi]
              by_cases hx2 : 57 < x.toNat
              · have hnone := hP.trans (if_neg (by rw [hnd (by rw [hdi, decide_eq_false (show ¬ x.toNat ≤ 57 by omega), Bool.and_false])]; decide))
                rw [show decide (((x.toNat : Nat) : Int) > 57) = true from decide_eq_true (by omega)]
                conv => whnf
                refine ⟨_, _, q2, ?_⟩
                conv => whnf
                refine hQ _ _ _ (by simp) ?_
                conv => whnf
                refine ⟨_, _, St.upd_same _ _ _, ?_⟩
                conv => whnf
                refine ⟨_, _, ⟨rfl, rfl⟩, St.le_upd hle2 hb2 _, ?_⟩
                rw [hnone]
                exact ⟨⟨rfl, rfl, rfl⟩, rfl, rfl⟩
              · rw [show decide (((x.toNat : Nat) : Int) > 57) = false from decide_eq_false (by omega)]
                conv => whnf
                exact ⟨i + 1, ⟨rfl, rfl, rfl, congrArg _ w1, trivial⟩, ⟨_, St.leW_refl _, rfl, hlt, hnx (by rw [hdi, decide_eq_true (by omega), decide_eq_true (by omega)]; rfl)⟩, by show d.length - (i + 1) < d.length - i; omega⟩
          have hlt : i = d.length := by have := of_decide_eq_false hlt; rw [size_arr] at this; omega
          subst hlt
          have hall : d.all digitB = true := List.all_eq_true.2 fun c hc => by
            obtain ⟨j, hj, rfl⟩ := List.getElem_of_mem hc
            exact hdg j hj hj
          rw [if_pos hall] at hP
          have hsome : ∀ T : St, St.le S T → True := fun _ _ => trivial
          conv => whnf
          refine hK _ _ ?_
          clear hK hQ K
          refine awp_seq2 fun K hK hQ => ?_
          conv => whnf
          refine hK _ _ ?_
          clear hK hQ K
          refine awp_seq2 fun K hK hQ => ?_
          conv => whnf
          refine ⟨⟨Nat × List Nat × Nat, fun x => [(2, .ref b2 0), (4, .bool true), (5, .str ⟨d.toArray⟩), (7, .sl (.acc x.2.2) 1 (rowsN x.2.1)), (8, .int .i64 ((d.length : Int) - 9 * (x.1 : Int)))],
            fun x S1 => AccOk S' S1 3 1 x.2.2 x.2.1.length ∧ x.2.1.length = x.1 ∧ 9 * x.1 ≤ d.length + 8 ∧ decV d = decV (d.take (d.length - 9 * x.1)) * 1000000000 ^ x.1 + valL x.2.1 ∧ ∀ y ∈ x.2.1, y < 1000000000, fun x => d.length + 9 - 9 * x.1⟩,
            ⟨(0, [], 0), ⟨rfl, rfl, rfl, rfl, congrArg (AV.int .i64) (by rw [size_arr]; simp), trivial⟩, _, St.leW_refl _, AccOk.init _ _ _ _, rfl, by omega, by simp [valL], by simp⟩, ?_⟩
          rintro ⟨k, acc, ba⟩ S1 ⟨g1, g2, g3, g4, g5⟩
          dsimp only at g1 g2 g3 g4 g5
          conv => whnf
          refine split_of (fun hgt => ?_) (fun hgt => ?_)
          · have hgt : 9 * k < d.length := by have := of_decide_eq_true hgt; dsimp only at this; omega
            have w9 : IntKind.i64.wrap ((d.length : Int) - 9 * (k : Int) - 9) = (d.length : Int) - 9 * ((k + 1 : Nat) : Int) := by rw [wrap_i64 (by omega) (by omega)]; omega
            have hmax : (if IntKind.i64.wrap ((d.length : Int) - 9 * (k : Int) - 9) > 0 then IntKind.i64.wrap ((d.length : Int) - 9 * (k : Int) - 9) else 0) = ((d.length - 9 * k - 9 : Nat) : Int) := by
              rw [w9]
              split <;> omega
            have hen : (d.length : Int) - 9 * (k : Int) = ((d.length - 9 * k : Nat) : Int) := by omega
            have hstep := chunk_step g2 g4 hgt
            generalize hst : d.length - 9 * k - 9 = st at *
            generalize hee : d.length - 9 * k = en at *
            have hsub : ∀ i, i ≤ en → ((d.take i).drop st).all digitB = true := fun i hi => List.all_eq_true.2 fun c hc => List.all_eq_true.1 hall c (List.mem_of_mem_take (List.mem_of_mem_drop hc))
            conv => whnf
            refine ⟨⟨Nat, fun i => [(2, .ref b2 0), (4, .bool true), (5, .str ⟨d.toArray⟩), (7, .sl (.acc ba) 1 (rowsN acc)), (8, .int .i64 (en : Int)), (9, .int .i64 (decV ((d.take i).drop st) : Int)), (10, .int .i64 (i : Int))],
              fun i S2 => S2 = S1 ∧ st ≤ i ∧ i ≤ en, fun i => en - i⟩,
              ⟨st, ⟨rfl, rfl, rfl, rfl, congrArg _ hen, by rw [List.drop_of_length_le (by rw [List.length_take]; omega)]; rfl, congrArg _ hmax, trivial⟩, _, St.leW_refl _, rfl, by omega, by omega⟩, ?_⟩
            rintro (i : Nat) S3 ⟨rfl, hi1, hi2⟩
            conv => whnf
            refine split_of (fun hil => ?_) (fun hil => ?_)
            · have hil : i < en := by have := of_decide_eq_true hil; omega
              have hid : i < d.length := by omega
              have hbi : byteAt ⟨d.toArray⟩ (i : Int).toNat = ((d[i].toNat : Nat) : Int) := byteAt_get d i hid
              have hdx : digitB d[i] = true := List.all_eq_true.1 hall _ (List.getElem_mem hid)
              unfold digitB at hdx
              simp only [Bool.and_eq_true, decide_eq_true_eq] at hdx
              have hsn : (d.take (i + 1)).drop st = (d.take i).drop st ++ [d[i]] := by
                rw [List.take_succ_eq_append_getElem hid, List.drop_append_of_le_length (by rw [List.length_take]; omega)]
              have hv := decV_lt _ (hsub i (by omega))
              rw [List.length_drop, List.length_take] at hv
              have hv8 : decV ((d.take i).drop st) < 100000000 := Nat.lt_of_lt_of_le hv (by
                have := Nat.pow_le_pow_right (n := 10) (by decide) (show min i d.length - st ≤ 8 by omega)
                omega)
              have hdv : decV ((d.take (i + 1)).drop st) = 10 * decV ((d.take i).drop st) + (d[i].toNat - 48) := by rw [hsn, decV_snoc]
              have w1 : IntKind.i64.wrap ((i : Int) + 1) = ((i + 1 : Nat) : Int) := wrap_nat (by omega)
              generalize d[i] = x at *
              have hu : IntKind.u8.wrap (((x.toNat : Nat) : Int) - 48) = ((x.toNat - 48 : Nat) : Int) := by
                unfold IntKind.wrap
                simp [IntKind.bits, IntKind.signed]
                omega
              have hwv : IntKind.i64.wrap (IntKind.i64.wrap (10 * (decV ((d.take i).drop st) : Int)) + IntKind.i64.wrap (IntKind.u8.wrap (byteAt ⟨d.toArray⟩ (i : Int).toNat - 48))) = (decV ((d.take (i + 1)).drop st) : Int) := by
                rw [hbi, hu, wrap_i64 (n := 10 * (decV ((d.take i).drop st) : Int)) (by omega) (by omega), wrap_i64 (n := ((x.toNat - 48 : Nat) : Int)) (by omega) (by omega), wrap_i64 (by omega) (by omega), hdv]
                omega
              conv => whnf
              refine ⟨⟨by omega, by rw [size_arr]; omega⟩, ?_⟩
              conv => whnf
              exact ⟨i + 1, ⟨rfl, rfl, rfl, rfl, rfl, congrArg _ hwv, congrArg _ w1, trivial⟩, ⟨_, St.leW_refl _, rfl, by omega, by omega⟩, by show en - (i + 1) < en - i; omega⟩
            · have hil : i = en := by have := of_decide_eq_false hil; omega
              subst hil
              conv => whnf
              intro bb hbb
              have g1' := g1.other hbb (.tip 3 1 1)
              conv => whnf
              refine ⟨⟨fun hl => ?_, ?_⟩, fun S4 c1 c2 b' c3 => ?_⟩
              · have : 0 < acc.length := by cases acc with
                  | nil => exact absurd rfl hl
                  | cons _ _ => simp
                rw [rowsN_len]; exact g1'.tip this
              · show ((rowsN acc).length + 1) * 8 ≤ _
                rw [rowsN_len]; omega
              have g5' := g1'.push (m := acc.length + 1) (by rw [rowsN_len]) c1 c2 c3 rfl
              rw [rowsN_len]
              conv => whnf
              have w10 : IntKind.i64.wrap ((i : Int) - 9) = (d.length : Int) - 9 * ((k + 1 : Nat) : Int) := by rw [← hen]; exact w9
              have hlt9 : decV ((d.take i).drop st) < 1000000000 := by
                have hv := decV_lt _ (hsub i (by omega))
                rw [List.length_drop, List.length_take] at hv
                have := Nat.pow_le_pow_right (n := 10) (by decide) (show min i d.length - st ≤ 9 by omega)
                omega
              refine ⟨(k + 1, acc ++ [decV ((d.take i).drop st)], b'), ⟨rfl, rfl, rfl, congrArg (AV.sl (.acc b') 1) (by simp [rowsN]), congrArg _ w10, trivial⟩, ⟨_, St.leW_refl _, by rw [show (acc ++ [decV ((d.take i).drop st)]).length = acc.length + 1 by simp]; exact g5', by simp [g2], by dsimp only; omega, by dsimp only; rw [show d.length - 9 * (k + 1) = st by omega]; exact hstep, fun y hy => ?_⟩, by show d.length + 9 - 9 * (k + 1) < d.length + 9 - 9 * k; omega⟩
              rcases List.mem_append.1 hy with hy | hy
              · exact g5 y hy
              · rw [List.mem_singleton.1 hy]; exact hlt9
          · have hgt : d.length ≤ 9 * k := by have := of_decide_eq_false hgt; dsimp only at this; omega
            have g4 : decV d = valL acc := by rw [g4, show d.length - 9 * k = 0 by omega]; simp [decV]
            have hmd := fun S => made1_ok (G := G) true acc g5 S
            conv => whnf
            refine hK _ _ ?_
            clear hK hQ K
            conv => whnf
            refine Triple.use (hmd _) (by exact ⟨rfl, ⟨rfl, rfl⟩, trivial⟩) ?_
            rintro o T ⟨rfl, rfl⟩
            have q3 := g1.le _ _ q2
            conv => whnf
            refine ⟨_, _, q3, ?_⟩
            conv => whnf
            refine ⟨_, _, St.upd_same _ _ _, ?_⟩
            conv => whnf
            refine ⟨_, _, ⟨rfl, rfl⟩, St.le_upd (St.le_trans hle2 g1.le) hb2 _, ?_⟩
            rw [hP, g4]
            exact AV.leS_refl _ _ _
    · have hpre : Lib.hasPrefix (c :: r) [45] = false := by simp [Lib.hasPrefix, List.isPrefixOf]; exact fun h => hc h.symm
      have htr : Lib.trimPrefix (c :: r) [45] = c :: r := trimPrefix_no hpre
      refine awp_seq2 fun K hK hQ => ?_
      conv => whnf
      rw [show decide (((⟨(c :: r).toArray⟩ : ByteArray).size : Int) > 0) = true from decide_eq_true hsl]
      conv => whnf
      refine ⟨⟨by decide, hsl⟩, ?_⟩
      conv => whnf
      have hbc : (byteAt ⟨(c :: r).toArray⟩ (0 : Int).toNat == 45) = false := by
        rw [hby]
        refine beq_false_of_ne fun h => hc (UInt8.toNat_inj.1 ?_)
        have h45 : (45 : UInt8).toNat = 45 := rfl
        omega
      rw [hbc]
      refine hK _ _ ?_
      clear hK hQ K
      refine awp_seq2 fun K hK hQ => ?_
      conv => whnf
      refine hK _ _ ?_
      clear hK hQ K
      refine awp_seq2 fun K hK hQ => ?_
      conv => whnf
      refine hK _ _ ?_
      clear hK hQ K
      by_cases he : c = 48
      · subst he
        cases r with
        | nil =>
          have hP : parseI [48] = if [(48 : UInt8)].all digitB = true then some (decV [48] : Int) else none := by decide
          refine awp_seq2 fun K hK hQ => ?_
          conv => whnf
          refine ⟨⟨by decide, by decide⟩, ?_⟩
          conv => whnf
          refine hK _ _ ?_
          clear hK hQ K
          generalize [(48 : UInt8)] = d at *
          refine awp_seq2 fun K hK hQ => ?_
          conv => whnf
          refine ⟨⟨Nat, fun i => [(2, .ref b2 0), (4, .bool false), (5, .str ⟨d.toArray⟩), (6, .int .i64 (i : Int))], fun i S' => S' = S2 ∧ i ≤ d.length ∧ ∀ j (h : j < d.length), j < i → digitB d[j] = true, fun i => d.length - i⟩,
            ⟨0, ⟨rfl, rfl, rfl, rfl, trivial⟩, _, St.leW_refl _, rfl, by omega, fun j h hj => by omega⟩, ?_⟩
          rintro (i : Nat) S' ⟨rfl, hi, hdg⟩
          conv => whnf
          refine split_of (fun hlt => ?_) (fun hlt => ?_)
          · have hlt : i < d.length := by have := of_decide_eq_true hlt; rw [size_arr] at this; omega
            have hbi : byteAt ⟨d.toArray⟩ (i : Int).toNat = ((d[i].toNat : Nat) : Int) := byteAt_get d i hlt
            have hnd : digitB d[i] = false → d.all digitB = false := fun h => by
              cases ha : d.all digitB with
              | false => rfl
              | true => rw [List.all_eq_true.1 ha _ (List.getElem_mem hlt)] at h; cases h
            have hdi : digitB d[i] = (decide (48 ≤ d[i].toNat) && decide (d[i].toNat ≤ 57)) := rfl
            have hnx : digitB d[i] = true → ∀ j (h : j < d.length), j < i + 1 → digitB d[j] = true := fun h j hj hji => by
              by_cases e : j = i
              · subst e; exact h
              · exact hdg j hj (by omega)
            have w1 : IntKind.i64.wrap ((i : Int) + 1) = ((i + 1 : Nat) : Int) := wrap_nat (by omega)
            generalize hgx : d[i] = x at *
            conv => whnf
            refine ⟨⟨by omega, by rw [size_arr]; omega⟩, ?_⟩
            conv => whnf
            rw [hbi]
            by_cases hx1 : x.toNat < 48
            · have hnone := hP.trans (if_neg (by rw [hnd (by rw [hdi, decide_eq_false (by omega)]; rfl)]; decide))
              rw [show decide (((x.toNat : Nat) : Int) < 48) = true from decide_eq_true (by omega)]
              conv => whnf
              refine ⟨_, _, q2, ?_⟩
              conv => whnf
              refine hQ _ _ _ (by simp) ?_
              conv => whnf
              refine ⟨_, _, St.upd_same _ _ _, ?_⟩
              conv => whnf
              refine ⟨_, _, ⟨rfl, rfl⟩, St.le_upd hle2 hb2 _, ?_⟩
              rw [hnone]
              exact ⟨⟨rfl, rfl, rfl⟩, rfl, rfl⟩
            · rw [show decide (((x.toNat : Nat) : Int) < 48) = false from decide_eq_false (by omega)]
              conv => whnf
              refine ⟨⟨by omega, by rw [size_arr]; omega⟩, ?_⟩
              conv => whnf
              rw [hbi]
              by_cases hx2 : 57 < x.toNat
              · have hnone := hP.trans (if_neg (by rw [hnd (by rw [hdi, decide_eq_false (show ¬ x.toNat ≤ 57 by omega), Bool.and_false])]; decide))
                rw [show decide (((x.toNat : Nat) : Int) > 57) = true from decide_eq_true (by omega)]
                conv => whnf
                refine ⟨_, _, q2, ?_⟩
                conv => whnf
                refine hQ _ _ _ (by simp) ?_
                conv => whnf
                refine ⟨_, _, St.upd_same _ _ _, ?_⟩
                conv => whnf
                refine ⟨_, _, ⟨rfl, rfl⟩, St.le_upd hle2 hb2 _, ?_⟩
                rw [hnone]
                exact ⟨⟨rfl, rfl, rfl⟩, rfl, rfl⟩
              · rw [show decide (((x.toNat : Nat) : Int) > 57) = false from decide_eq_false (by omega)]
                conv => whnf
                exact ⟨i + 1, ⟨rfl, rfl, rfl, congrArg _ w1, trivial⟩, ⟨_, St.leW_refl _, rfl, hlt, hnx (by rw [hdi, decide_eq_true (by omega), decide_eq_true (by omega)]; rfl)⟩, by show d.length - (i + 1) < d.length - i; omega⟩
          have hlt : i = d.length := by have := of_decide_eq_false hlt; rw [size_arr] at this; omega
          subst hlt
          have hall : d.all digitB = true := List.all_eq_true.2 fun c hc => by
            obtain ⟨j, hj, rfl⟩ := List.getElem_of_mem hc
            exact hdg j hj hj
          rw [if_pos hall] at hP
          have hsome : ∀ T : St, St.le S T → True := fun _ _ => trivial
          conv => whnf
          refine hK _ _ ?_
          clear hK hQ K
          refine awp_seq2 fun K hK hQ => ?_
          conv => whnf
          refine hK _ _ ?_
          clear hK hQ K
          refine awp_seq2 fun K hK hQ => ?_
          conv => whnf
          refine ⟨⟨Nat × List Nat × Nat, fun x => [(2, .ref b2 0), (4, .bool false), (5, .str ⟨d.toArray⟩), (7, .sl (.acc x.2.2) 1 (rowsN x.2.1)), (8, .int .i64 ((d.length : Int) - 9 * (x.1 : Int)))],
            fun x S1 => AccOk S' S1 3 1 x.2.2 x.2.1.length ∧ x.2.1.length = x.1 ∧ 9 * x.1 ≤ d.length + 8 ∧ decV d = decV (d.take (d.length - 9 * x.1)) * 1000000000 ^ x.1 + valL x.2.1 ∧ ∀ y ∈ x.2.1, y < 1000000000, fun x => d.length + 9 - 9 * x.1⟩,
            ⟨(0, [], 0), ⟨rfl, rfl, rfl, rfl, congrArg (AV.int .i64) (by rw [size_arr]; simp), trivial⟩, _, St.leW_refl _, AccOk.init _ _ _ _, rfl, by omega, by simp [valL], by simp⟩, ?_⟩
          rintro ⟨k, acc, ba⟩ S1 ⟨g1, g2, g3, g4, g5⟩
          dsimp only at g1 g2 g3 g4 g5
          conv => whnf
          refine split_of (fun hgt => ?_) (fun hgt => ?_)
          · have hgt : 9 * k < d.length := by have := of_decide_eq_true hgt; dsimp only at this; omega
            have w9 : IntKind.i64.wrap ((d.length : Int) - 9 * (k : Int) - 9) = (d.length : Int) - 9 * ((k + 1 : Nat) : Int) := by rw [wrap_i64 (by omega) (by omega)]; omega
            have hmax : (if IntKind.i64.wrap ((d.length : Int) - 9 * (k : Int) - 9) > 0 then IntKind.i64.wrap ((d.length : Int) - 9 * (k : Int) - 9) else 0) = ((d.length - 9 * k - 9 : Nat) : Int) := by
              rw [w9]
              split <;> omega
            have hen : (d.length : Int) - 9 * (k : Int) = ((d.length - 9 * k : Nat) : Int) := by omega
            have hstep := chunk_step g2 g4 hgt
            generalize hst : d.length - 9 * k - 9 = st at *
            generalize hee : d.length - 9 * k = en at *
            have hsub : ∀ i, i ≤ en → ((d.take i).drop st).all digitB = true := fun i hi => List.all_eq_true.2 fun c hc => List.all_eq_true.1 hall c (List.mem_of_mem_take (List.mem_of_mem_drop hc))
            conv => whnf
            refine ⟨⟨Nat, fun i => [(2, .ref b2 0), (4, .bool false), (5, .str ⟨d.toArray⟩), (7, .sl (.acc ba) 1 (rowsN acc)), (8, .int .i64 (en : Int)), (9, .int .i64 (decV ((d.take i).drop st) : Int)), (10, .int .i64 (i : Int))],
              fun i S2 => S2 = S1 ∧ st ≤ i ∧ i ≤ en, fun i => en - i⟩,
              ⟨st, ⟨rfl, rfl, rfl, rfl, congrArg _ hen, by rw [List.drop_of_length_le (by rw [List.length_take]; omega)]; rfl, congrArg _ hmax, trivial⟩, _, St.leW_refl _, rfl, by omega, by omega⟩, ?_⟩
            rintro (i : Nat) S3 ⟨rfl, hi1, hi2⟩
            conv => whnf
            refine split_of (fun hil => ?_) (fun hil => ?_)
            · have hil : i < en := by have := of_decide_eq_true hil; omega
              have hid : i < d.length := by omega
              have hbi : byteAt ⟨d.toArray⟩ (i : Int).toNat = ((d[i].toNat : Nat) : Int) := byteAt_get d i hid
              have hdx : digitB d[i] = true := List.all_eq_true.1 hall _ (List.getElem_mem hid)
              unfold digitB at hdx
              simp only [Bool.and_eq_true, decide_eq_true_eq] at hdx
              have hsn : (d.take (i + 1)).drop st = (d.take i).drop st ++ [d[i]] := by
                rw [List.take_succ_eq_append_getElem hid, List.drop_append_of_le_length (by rw [List.length_take]; omega)]
              have hv := decV_lt _ (hsub i (by omega))
              rw [List.length_drop, List.length_take] at hv
              have hv8 : decV ((d.take i).drop st) < 100000000 := Nat.lt_of_lt_of_le hv (by
                have := Nat.pow_le_pow_right (n := 10) (by decide) (show min i d.length - st ≤ 8 by omega)
                omega)
              have hdv : decV ((d.take (i + 1)).drop st) = 10 * decV ((d.take i).drop st) + (d[i].toNat - 48) := by rw [hsn, decV_snoc]
              have w1 : IntKind.i64.wrap ((i : Int) + 1) = ((i + 1 : Nat) : Int) := wrap_nat (by omega)
              generalize d[i] = x at *
              have hu : IntKind.u8.wrap (((x.toNat : Nat) : Int) - 48) = ((x.toNat - 48 : Nat) : Int) := by
                unfold IntKind.wrap
                simp [IntKind.bits, IntKind.signed]
                omega
              have hwv : IntKind.i64.wrap (IntKind.i64.wrap (10 * (decV ((d.take i).drop st) : Int)) + IntKind.i64.wrap (IntKind.u8.wrap (byteAt ⟨d.toArray⟩ (i : Int).toNat - 48))) = (decV ((d.take (i + 1)).drop st) : Int) := by
                rw [hbi, hu, wrap_i64 (n := 10 * (decV ((d.take i).drop st) : Int)) (by omega) (by omega), wrap_i64 (n := ((x.toNat - 48 : Nat) : Int)) (by omega) (by omega), wrap_i64 (by omega) (by omega), hdv]
                omega
              conv => whnf
              refine ⟨⟨by omega, by rw [size_arr]; omega⟩, ?_⟩
              conv => whnf
              exact ⟨i + 1, ⟨rfl, rfl, rfl, rfl, rfl, congrArg _ hwv, congrArg _ w1, trivial⟩, ⟨_, St.leW_refl _, rfl, by omega, by omega⟩, by show en - (i + 1) < en - i; omega⟩
            · have hil : i = en := by have := of_decide_eq_false hil; omega
              subst hil
              conv => whnf
              intro bb hbb
              have g1' := g1.other hbb (.tip 3 1 1)
              conv => whnf
              refine ⟨⟨fun hl => ?_, ?_⟩, fun S4 c1 c2 b' c3 => ?_⟩
              · have : 0 < acc.length := by cases acc with
                  | nil => exact absurd rfl hl
                  | cons _ _ => simp
                rw [rowsN_len]; exact g1'.tip this
              · show ((rowsN acc).length + 1) * 8 ≤ _
                rw [rowsN_len]; omega
              have g5' := g1'.push (m := acc.length + 1) (by rw [rowsN_len]) c1 c2 c3 rfl
              rw [rowsN_len]
              conv => whnf
              have w10 : IntKind.i64.wrap ((i : Int) - 9) = (d.length : Int) - 9 * ((k + 1 : Nat) : Int) := by rw [← hen]; exact w9
              have hlt9 : decV ((d.take i).drop st) < 1000000000 := by
                have hv := decV_lt _ (hsub i (by omega))
                rw [List.length_drop, List.length_take] at hv
                have := Nat.pow_le_pow_right (n := 10) (by decide) (show min i d.length - st ≤ 9 by omega)
                omega
              refine ⟨(k + 1, acc ++ [decV ((d.take i).drop st)], b'), ⟨rfl, rfl, rfl, congrArg (AV.sl (.acc b') 1) (by simp [rowsN]), congrArg _ w10, trivial⟩, ⟨_, St.leW_refl _, by rw [show (acc ++ [decV ((d.take i).drop st)]).length = acc.length + 1 by simp]; exact g5', by simp [g2], by dsimp only; omega, by dsimp only; rw [show d.length - 9 * (k + 1) = st by omega]; exact hstep, fun y hy => ?_⟩, by show d.length + 9 - 9 * (k + 1) < d.length + 9 - 9 * k; omega⟩
              rcases List.mem_append.1 hy with hy | hy
              · exact g5 y hy
              · rw [List.mem_singleton.1 hy]; exact hlt9
          · have hgt : d.length ≤ 9 * k := by have := of_decide_eq_false hgt; dsimp only at this; omega
            have g4 : decV d = valL acc := by rw [g4, show d.length - 9 * k = 0 by omega]; simp [decV]
            have hmd := fun S => made1_ok (G := G) false acc g5 S
            conv => whnf
            refine hK _ _ ?_
            clear hK hQ K
            conv => whnf
            refine Triple.use (hmd _) (by exact ⟨rfl, ⟨rfl, rfl⟩, trivial⟩) ?_
            rintro o T ⟨rfl, rfl⟩
            have q3 := g1.le _ _ q2
            conv => whnf
            refine ⟨_, _, q3, ?_⟩
            conv => whnf
            refine ⟨_, _, St.upd_same _ _ _, ?_⟩
            conv => whnf
            refine ⟨_, _, ⟨rfl, rfl⟩, St.le_upd (St.le_trans hle2 g1.le) hb2 _, ?_⟩
            rw [hP, g4]
            exact AV.leS_refl _ _ _
        | cons e r' =>
          have hnone : parseI (48 :: e :: r') = none := by
            unfold parseI
            rw [htr]
            exact if_pos (.inr (.inl ⟨rfl, by simp⟩))
          refine awp_seq2 fun K hK hQ => ?_
          conv => whnf
          rw [show (((⟨((48 : UInt8) :: e :: r').toArray⟩ : ByteArray).size : Int) == 0) = false from by rw [hsz]; exact beq_false_of_ne (by simp <;> omega)]
          conv => whnf
          refine ⟨⟨by decide, hsl⟩, ?_⟩
          conv => whnf
          rw [show (byteAt ⟨((48 : UInt8) :: e :: r').toArray⟩ (0 : Int).toNat == 48) = true from by rw [hby]; rfl]
          conv => whnf
          rw [show decide (((⟨((48 : UInt8) :: e :: r').toArray⟩ : ByteArray).size : Int) > 1) = true from decide_eq_true (by rw [hsz]; simp <;> omega)]
          conv => whnf
          refine ⟨_, _, q2, ?_⟩
          conv => whnf
          refine hQ _ _ _ (by simp) ?_
          conv => whnf
          refine ⟨_, _, St.upd_same _ _ _, ?_⟩
          conv => whnf
          refine ⟨_, _, ⟨rfl, rfl⟩, St.le_upd hle2 hb2 _, ?_⟩
          rw [hnone]
          exact ⟨⟨rfl, rfl, rfl⟩, rfl, rfl⟩
      · refine awp_seq2 fun K hK hQ => ?_
        conv => whnf
        rw [show (((⟨(c :: r).toArray⟩ : ByteArray).size : Int) == 0) = false from by rw [hsz]; exact beq_false_of_ne (by simp <;> omega)]
        conv => whnf
        refine ⟨⟨by decide, hsl⟩, ?_⟩
        conv => whnf
        have hbe : (byteAt ⟨(c :: r).toArray⟩ (0 : Int).toNat == 48) = false := by
          rw [hby]
          refine beq_false_of_ne fun h => he (UInt8.toNat_inj.1 ?_)
          have h48 : (48 : UInt8).toNat = 48 := rfl
          omega
        rw [hbe]
        conv => whnf
        refine hK _ _ ?_
        clear hK hQ K
        have hP : parseI (c :: r) = if (c :: r).all digitB = true then some (decV (c :: r) : Int) else none := by
          unfold parseI
          rw [htr, hpre]
          dsimp only
          by_cases ha : (c :: r).all digitB = true
          · rw [if_pos ha, if_neg (by rintro (h | h | h); cases h; exact he (by simpa using h.1); rw [ha] at h; cases h)]
            rfl
          · rw [if_neg ha, if_pos (.inr (.inr (by simpa using ha)))]
        have hrl : (c :: r).length ≤ 9000000 := hl
        generalize c :: r = d at *
        refine awp_seq2 fun K hK hQ => ?_
        conv => whnf
        refine ⟨⟨Nat, fun i => [(2, .ref b2 0), (4, .bool false), (5, .str ⟨d.toArray⟩), (6, .int .i64 (i : Int))], fun i S' => S' = S2 ∧ i ≤ d.length ∧ ∀ j (h : j < d.length), j < i → digitB d[j] = true, fun i => d.length - i⟩,
          ⟨0, ⟨rfl, rfl, rfl, rfl, trivial⟩, _, St.leW_refl _, rfl, by omega, fun j h hj => by omega⟩, ?_⟩
        rintro (i : Nat) S' ⟨rfl, hi, hdg⟩
        conv => whnf
        refine split_of (fun hlt => ?_) (fun hlt => ?_)
        · have hlt : i < d.length := by have := of_decide_eq_true hlt; rw [size_arr] at this; omega
          have hbi : byteAt ⟨d.toArray⟩ (i : Int).toNat = ((d[i].toNat : Nat) : Int) := byteAt_get d i hlt
          have hnd : digitB d[i] = false → d.all digitB = false := fun h => by
            cases ha : d.all digitB with
            | false => rfl
            | true => rw [List.all_eq_true.1 ha _ (List.getElem_mem hlt)] at h; cases h
          have hdi : digitB d[i] = (decide (48 ≤ d[i].toNat) && decide (d[i].toNat ≤ 57)) := rfl
          have hnx : digitB d[i] = true → ∀ j (h : j < d.length), j < i + 1 → digitB d[j] = true := fun h j hj hji => by
            by_cases e : j = i
            · subst e; exact h
            · exact hdg j hj (by omega)
          have w1 : IntKind.i64.wrap ((i : Int) + 1) = ((i + 1 : Nat) : Int) := wrap_nat (by omega)
          generalize hgx : d[i] = x at *
          conv => whnf
          refine ⟨⟨by omega, by rw [size_arr]; omega⟩, ?_⟩
          conv => whnf
          rw [hbi]
          by_cases hx1 : x.toNat < 48
          · have hnone := hP.trans (if_neg (by rw [hnd (by rw [hdi, decide_eq_false (by omega)]; rfl)]; decide))
            rw [show decide (((x.toNat : Nat) : Int) < 48) = true from decide_eq_true (by omega)]
            conv => whnf
            refine ⟨_, _, q2, ?_⟩
            conv => whnf
            refine hQ _ _ _ (by simp) ?_
            conv => whnf
            refine ⟨_, _, St.upd_same _ _ _, ?_⟩
            conv => whnf
            refine ⟨_, _, ⟨rfl, rfl⟩, St.le_upd hle2 hb2 _, ?_⟩
            rw [hnone]
            exact ⟨⟨rfl, rfl, rfl⟩, rfl, rfl⟩
          · rw [show decide (((x.toNat : Nat) : Int) < 48) = false from decide_eq_false (by omega)]
            conv => whnf
            refine ⟨⟨by omega, by rw [size_arr]; omega⟩, ?_⟩
            conv => whnf
            rw [hbi]
            by_cases hx2 : 57 < x.toNat
            · have hnone := hP.trans (if_neg (by rw [hnd (by rw [hdi, decide_eq_false (show ¬ x.toNat ≤ 57 by omega), Bool.and_false])]; decide))
              rw [show decide (((x.toNat : Nat) : Int) > 57) = true from decide_eq_true (by omega)]
              conv => whnf
              refine ⟨_, _, q2, ?_⟩
              conv => whnf
              refine hQ _ _ _ (by simp) ?_
              conv => whnf
              refine ⟨_, _, St.upd_same _ _ _, ?_⟩
              conv => whnf
              refine ⟨_, _, ⟨rfl, rfl⟩, St.le_upd hle2 hb2 _, ?_⟩
              rw [hnone]
              exact ⟨⟨rfl, rfl, rfl⟩, rfl, rfl⟩
            · rw [show decide (((x.toNat : Nat) : Int) > 57) = false from decide_eq_false (by omega)]
              conv => whnf
              exact ⟨i + 1, ⟨rfl, rfl, rfl, congrArg _ w1, trivial⟩, ⟨_, St.leW_refl _, rfl, hlt, hnx (by rw [hdi, decide_eq_true (by omega), decide_eq_true (by omega)]; rfl)⟩, by show d.length - (i + 1) < d.length - i; omega⟩
        have hlt : i = d.length := by have := of_decide_eq_false hlt; rw [size_arr] at this; omega
        subst hlt
        have hall : d.all digitB = true := List.all_eq_true.2 fun c hc => by
          obtain ⟨j, hj, rfl⟩ := List.getElem_of_mem hc
          exact hdg j hj hj
        rw [if_pos hall] at hP
        have hsome : ∀ T : St, St.le S T → True := fun _ _ => trivial
        conv => whnf
        refine hK _ _ ?_
        clear hK hQ K
        refine awp_seq2 fun K hK hQ => ?_
        conv => whnf
        refine hK _ _ ?_
        clear hK hQ K
        refine awp_seq2 fun K hK hQ => ?_
        conv => whnf
        refine ⟨⟨Nat × List Nat × Nat, fun x => [(2, .ref b2 0), (4, .bool false), (5, .str ⟨d.toArray⟩), (7, .sl (.acc x.2.2) 1 (rowsN x.2.1)), (8, .int .i64 ((d.length : Int) - 9 * (x.1 : Int)))],
          fun x S1 => AccOk S' S1 3 1 x.2.2 x.2.1.length ∧ x.2.1.length = x.1 ∧ 9 * x.1 ≤ d.length + 8 ∧ decV d = decV (d.take (d.length - 9 * x.1)) * 1000000000 ^ x.1 + valL x.2.1 ∧ ∀ y ∈ x.2.1, y < 1000000000, fun x => d.length + 9 - 9 * x.1⟩,
          ⟨(0, [], 0), ⟨rfl, rfl, rfl, rfl, congrArg (AV.int .i64) (by rw [size_arr]; simp), trivial⟩, _, St.leW_refl _, AccOk.init _ _ _ _, rfl, by omega, by simp [valL], by simp⟩, ?_⟩
        rintro ⟨k, acc, ba⟩ S1 ⟨g1, g2, g3, g4, g5⟩
        dsimp only at g1 g2 g3 g4 g5
        conv => whnf
        refine split_of (fun hgt => ?_) (fun hgt => ?_)
        · have hgt : 9 * k < d.length := by have := of_decide_eq_true hgt; dsimp only at this; omega
          have w9 : IntKind.i64.wrap ((d.length : Int) - 9 * (k : Int) - 9) = (d.length : Int) - 9 * ((k + 1 : Nat) : Int) := by rw [wrap_i64 (by omega) (by omega)]; omega
          have hmax : (if IntKind.i64.wrap ((d.length : Int) - 9 * (k : Int) - 9) > 0 then IntKind.i64.wrap ((d.length : Int) - 9 * (k : Int) - 9) else 0) = ((d.length - 9 * k - 9 : Nat) : Int) := by
            rw [w9]
            split <;> omega
          have hen : (d.length : Int) - 9 * (k : Int) = ((d.length - 9 * k : Nat) : Int) := by omega
          have hstep := chunk_step g2 g4 hgt
          generalize hst : d.length - 9 * k - 9 = st at *
          generalize hee : d.length - 9 * k = en at *
          have hsub : ∀ i, i ≤ en → ((d.take i).drop st).all digitB = true := fun i hi => List.all_eq_true.2 fun c hc => List.all_eq_true.1 hall c (List.mem_of_mem_take (List.mem_of_mem_drop hc))
          conv => whnf
          refine ⟨⟨Nat, fun i => [(2, .ref b2 0), (4, .bool false), (5, .str ⟨d.toArray⟩), (7, .sl (.acc ba) 1 (rowsN acc)), (8, .int .i64 (en : Int)), (9, .int .i64 (decV ((d.take i).drop st) : Int)), (10, .int .i64 (i : Int))],
            fun i S2 => S2 = S1 ∧ st ≤ i ∧ i ≤ en, fun i => en - i⟩,
            ⟨st, ⟨rfl, rfl, rfl, rfl, congrArg _ hen, by rw [List.drop_of_length_le (by rw [List.length_take]; omega)]; rfl, congrArg _ hmax, trivial⟩, _, St.leW_refl _, rfl, by omega, by omega⟩, ?_⟩
          rintro (i : Nat) S3 ⟨rfl, hi1, hi2⟩
          conv => whnf
          refine split_of (fun hil => ?_) (fun hil => ?_)
          · have hil : i < en := by have := of_decide_eq_true hil; omega
            have hid : i < d.length := by omega
            have hbi : byteAt ⟨d.toArray⟩ (i : Int).toNat = ((d[i].toNat : Nat) : Int) := byteAt_get d i hid
            have hdx : digitB d[i] = true := List.all_eq_true.1 hall _ (List.getElem_mem hid)
            unfold digitB at hdx
            simp only [Bool.and_eq_true, decide_eq_true_eq] at hdx
            have hsn : (d.take (i + 1)).drop st = (d.take i).drop st ++ [d[i]] := by
              rw [List.take_succ_eq_append_getElem hid, List.drop_append_of_le_length (by rw [List.length_take]; omega)]
            have hv := decV_lt _ (hsub i (by omega))
            rw [List.length_drop, List.length_take] at hv
            have hv8 : decV ((d.take i).drop st) < 100000000 := Nat.lt_of_lt_of_le hv (by
              have := Nat.pow_le_pow_right (n := 10) (by decide) (show min i d.length - st ≤ 8 by omega)
              omega)
            have hdv : decV ((d.take (i + 1)).drop st) = 10 * decV ((d.take i).drop st) + (d[i].toNat - 48) := by rw [hsn, decV_snoc]
            have w1 : IntKind.i64.wrap ((i : Int) + 1) = ((i + 1 : Nat) : Int) := wrap_nat (by omega)
            generalize d[i] = x at *
            have hu : IntKind.u8.wrap (((x.toNat : Nat) : Int) - 48) = ((x.toNat - 48 : Nat) : Int) := by
              unfold IntKind.wrap
              simp [IntKind.bits, IntKind.signed]
              omega
            have hwv : IntKind.i64.wrap (IntKind.i64.wrap (10 * (decV ((d.take i).drop st) : Int)) + IntKind.i64.wrap (IntKind.u8.wrap (byteAt ⟨d.toArray⟩ (i : Int).toNat - 48))) = (decV ((d.take (i + 1)).drop st) : Int) := by
              rw [hbi, hu, wrap_i64 (n := 10 * (decV ((d.take i).drop st) : Int)) (by omega) (by omega), wrap_i64 (n := ((x.toNat - 48 : Nat) : Int)) (by omega) (by omega), wrap_i64 (by omega) (by omega), hdv]
              omega
            conv => whnf
            refine ⟨⟨by omega, by rw [size_arr]; omega⟩, ?_⟩
            conv => whnf
            exact ⟨i + 1, ⟨rfl, rfl, rfl, rfl, rfl, congrArg _ hwv, congrArg _ w1, trivial⟩, ⟨_, St.leW_refl _, rfl, by omega, by omega⟩, by show en - (i + 1) < en - i; omega⟩
          · have hil : i = en := by have := of_decide_eq_false hil; omega
            subst hil
            conv => whnf
            intro bb hbb
            have g1' := g1.other hbb (.tip 3 1 1)
            conv => whnf
            refine ⟨⟨fun hl => ?_, ?_⟩, fun S4 c1 c2 b' c3 => ?_⟩
            · have : 0 < acc.length := by cases acc with
                | nil => exact absurd rfl hl
                | cons _ _ => simp
              rw [rowsN_len]; exact g1'.tip this
            · show ((rowsN acc).length + 1) * 8 ≤ _
              rw [rowsN_len]; omega
            have g5' := g1'.push (m := acc.length + 1) (by rw [rowsN_len]) c1 c2 c3 rfl
            rw [rowsN_len]
            conv => whnf
            have w10 : IntKind.i64.wrap ((i : Int) - 9) = (d.length : Int) - 9 * ((k + 1 : Nat) : Int) := by rw [← hen]; exact w9
            have hlt9 : decV ((d.take i).drop st) < 1000000000 := by
              have hv := decV_lt _ (hsub i (by omega))
              rw [List.length_drop, List.length_take] at hv
              have := Nat.pow_le_pow_right (n := 10) (by decide) (show min i d.length - st ≤ 9 by omega)
              omega
            refine ⟨(k + 1, acc ++ [decV ((d.take i).drop st)], b'), ⟨rfl, rfl, rfl, congrArg (AV.sl (.acc b') 1) (by simp [rowsN]), congrArg _ w10, trivial⟩, ⟨_, St.leW_refl _, by rw [show (acc ++ [decV ((d.take i).drop st)]).length = acc.length + 1 by simp]; exact g5', by simp [g2], by dsimp only; omega, by dsimp only; rw [show d.length - 9 * (k + 1) = st by omega]; exact hstep, fun y hy => ?_⟩, by show d.length + 9 - 9 * (k + 1) < d.length + 9 - 9 * k; omega⟩
            rcases List.mem_append.1 hy with hy | hy
            · exact g5 y hy
            · rw [List.mem_singleton.1 hy]; exact hlt9
        · have hgt : d.length ≤ 9 * k := by have := of_decide_eq_false hgt; dsimp only at this; omega
          have g4 : decV d = valL acc := by rw [g4, show d.length - 9 * k = 0 by omega]; simp [decV]
          have hmd := fun S => made1_ok (G := G) false acc g5 S
          conv => whnf
          refine hK _ _ ?_
          clear hK hQ K
          conv => whnf
          refine Triple.use (hmd _) (by exact ⟨rfl, ⟨rfl, rfl⟩, trivial⟩) ?_
          rintro o T ⟨rfl, rfl⟩
          have q3 := g1.le _ _ q2
          conv => whnf
          refine ⟨_, _, q3, ?_⟩
          conv => whnf
          refine ⟨_, _, St.upd_same _ _ _, ?_⟩
          conv => whnf
          refine ⟨_, _, ⟨rfl, rfl⟩, St.le_upd (St.le_trans hle2 g1.le) hb2 _, ?_⟩
          rw [hP, g4]
          exact AV.leS_refl _ _ _
theorem RParse_ok (s : ByteArray) (hl : s.size ≤ 9000000) (S : St) : Triple P (C G) 137 [.str s] S fun o S' => o = .ret (.tu [refI ((parseI s.data.toList).getD 0), .bool (parseI s.data.toList).isSome]) ∧ S' = S := by
  have h := Parse1_s (G := G) s.data.toList (by simpa using hl) S
  rwa [show (⟨s.data.toList.toArray⟩ : ByteArray) = s from by obtain ⟨⟨l⟩⟩ := s; rfl] at h
end Go.Proofs.YtcpdgnkhkdddhaaGreatDoor.Aw

set_option maxRecDepth 100000
set_option linter.unusedVariables false
set_option linter.unusedSimpArgs false
namespace Go.Proofs.YtcpdgnkhkdddhaaGreatDoor.Aw
open Go Go.RowKit
variable {G : Nat → Option (List AV)}

def isLitV (v : Int) : Bool := decide ((1 ≤ v ∧ v ≤ 1073741824) ∨ (v ≤ -1 ∧ -1073741824 ≤ v))
theorem IsLit_ok (v : Int) (S : St) : Triple P (C G) 171 [.int .i64 v] S fun o S' => o = .ret (.bool (isLitV v)) ∧ S' = S := by
  unfold isLitV
  by_cases h1 : v ≥ 1
  · by_cases h2 : v ≤ 1073741824
    · rw [decide_eq_true (.inl ⟨h1, h2⟩)]
      refine triple_of_awp (hT G) hm Tryz.func171 rfl (by decide +kernel) rfl (by decide +kernel) (by show 1 ≤ _; decide +kernel) rfl ?_
      conv => whnf
      rw [decide_eq_true h1]
      conv => whnf
      rw [decide_eq_true h2]
      conv => whnf
      exact ⟨_, _, ⟨rfl, rfl⟩, St.le_refl _, AV.leS_refl _ _ _⟩
    · rw [decide_eq_false (by omega : ¬ ((1 ≤ v ∧ v ≤ 1073741824) ∨ (v ≤ -1 ∧ -1073741824 ≤ v)))]
      refine triple_of_awp (hT G) hm Tryz.func171 rfl (by decide +kernel) rfl (by decide +kernel) (by show 1 ≤ _; decide +kernel) rfl ?_
      conv => whnf
      rw [decide_eq_true h1]
      conv => whnf
      rw [decide_eq_false h2]
      conv => whnf
      rw [decide_eq_false (by omega : ¬ v ≤ -1)]
      conv => whnf
      exact ⟨_, _, ⟨rfl, rfl⟩, St.le_refl _, AV.leS_refl _ _ _⟩
  · by_cases h3 : v ≤ -1
    · by_cases h4 : v ≥ -1073741824
      · rw [decide_eq_true (.inr ⟨h3, h4⟩)]
        refine triple_of_awp (hT G) hm Tryz.func171 rfl (by decide +kernel) rfl (by decide +kernel) (by show 1 ≤ _; decide +kernel) rfl ?_
        conv => whnf
        rw [decide_eq_false h1]
        conv => whnf
        rw [decide_eq_true h3]
        conv => whnf
        rw [decide_eq_true h4]
        exact ⟨_, _, ⟨rfl, rfl⟩, St.le_refl _, AV.leS_refl _ _ _⟩
      · rw [decide_eq_false (by omega : ¬ ((1 ≤ v ∧ v ≤ 1073741824) ∨ (v ≤ -1 ∧ -1073741824 ≤ v)))]
        refine triple_of_awp (hT G) hm Tryz.func171 rfl (by decide +kernel) rfl (by decide +kernel) (by show 1 ≤ _; decide +kernel) rfl ?_
        conv => whnf
        rw [decide_eq_false h1]
        conv => whnf
        rw [decide_eq_true h3]
        conv => whnf
        rw [decide_eq_false h4]
        exact ⟨_, _, ⟨rfl, rfl⟩, St.le_refl _, AV.leS_refl _ _ _⟩
    · rw [decide_eq_false (by omega : ¬ ((1 ≤ v ∧ v ≤ 1073741824) ∨ (v ≤ -1 ∧ -1073741824 ≤ v)))]
      refine triple_of_awp (hT G) hm Tryz.func171 rfl (by decide +kernel) rfl (by decide +kernel) (by show 1 ≤ _; decide +kernel) rfl ?_
      conv => whnf
      rw [decide_eq_false h1]
      conv => whnf
      rw [decide_eq_false h3]
      conv => whnf
      exact ⟨_, _, ⟨rfl, rfl⟩, St.le_refl _, AV.leS_refl _ _ _⟩
theorem isNumber1_ok (w : ByteArray) (hw : w.size ≤ 9000000) (low : Int) (h0 : -9223372036854775808 ≤ low) (h1 : low ≤ 9223372036854775807) (S : St) :
    Triple P (C G) 135 [.str w, .int .i64 low] S fun o S' => o = .ret (.bool (isNumV w.data.toList low)) ∧ S' = S := by
  have hp := fun S => RParse_ok (G := G) w hw S
  have hof := fun S => Of1_ok (G := G) low h0 h1 S
  unfold isNumV
  cases hz : parseI w.data.toList with
  | none =>
    rw [hz] at hp
    simp only [Option.getD_none, Option.isSome_none] at hp
    refine triple_of_awp (hT G) hm Tryz.func135 rfl (by decide +kernel) rfl (by decide +kernel) (by show 2 ≤ _; decide +kernel) rfl ?_
    refine awp_seq2 fun K hK hQ => ?_
    conv => whnf
    refine hK _ _ ?_
    clear hK hQ K
    refine awp_seq2 fun K hK hQ => ?_
    conv => whnf
    refine (hp _).mono ?_
    rintro o T ⟨rfl, rfl⟩
    conv => whnf
    intro b5 hb5
    conv => whnf
    refine ⟨_, _, St.upd_same _ _ _, ?_⟩
    conv => whnf
    rw [St.upd_upd]
    refine hK _ _ ?_
    clear hK hQ K
    conv => whnf
    refine ⟨[7, 8], (.free 0 (.free 1 (.free 2 (.free 3 (.free 4 (.free 5 (.free 6 (.free 7 (.free 8 (.free 9 (.free 10 (.free 11 (.free 12 .done))))))))))))), _, by decide +kernel, ?_, fun _ _ h => ⟨_, .inl rfl, h⟩⟩
    conv => whnf
    exact ⟨_, _, ⟨rfl, rfl⟩, St.le_upd' (St.le_refl _) hb5 _, AV.leS_refl _ _ _⟩
  | some z =>
    rw [hz] at hp
    simp only [Option.getD_some, Option.isSome_some] at hp
    have hc := fun S => Cmp1_ok (G := G) z low S
    have hcl : cmpI z low ≥ 0 ↔ low ≤ z := by unfold cmpI; split <;> (try split) <;> omega
    obtain ⟨n1, l1, e1⟩ : ∃ n l, refI z = .ag [.bool n, .sl .any 1 l] := ⟨_, _, rfl⟩
    obtain ⟨n2, l2, e2⟩ : ∃ n l, refI low = .ag [.bool n, .sl .any 1 l] := ⟨_, _, rfl⟩
    rw [e1] at hp hc
    rw [e2] at hof hc
    generalize cmpI z low = cv at *
    refine triple_of_awp (hT G) hm Tryz.func135 rfl (by decide +kernel) rfl (by decide +kernel) (by show 2 ≤ _; decide +kernel) rfl ?_
    refine awp_seq2 fun K hK hQ => ?_
    conv => whnf
    refine hK _ _ ?_
    clear hK hQ K
    refine awp_seq2 fun K hK hQ => ?_
    conv => whnf
    refine (hp _).mono ?_
    rintro o T ⟨rfl, rfl⟩
    conv => whnf
    intro b5 hb5
    conv => whnf
    refine ⟨_, _, St.upd_same _ _ _, ?_⟩
    conv => whnf
    rw [St.upd_upd]
    refine hK _ _ ?_
    clear hK hQ K
    conv => whnf
    refine ⟨[7, 8], (.free 0 (.free 1 (.free 2 (.free 3 (.free 4 (.free 5 (.free 6 (.free 7 (.free 8 (.free 9 (.free 10 (.free 11 (.free 12 .done))))))))))))), _, by decide +kernel, ?_, fun _ _ h => ⟨_, .inl rfl, h⟩⟩
    conv => whnf
    by_cases hlow : low < 0
    · rw [decide_eq_true hlow]
      conv => whnf
      refine ⟨_, _, ⟨rfl, rfl⟩, St.le_upd' (St.le_refl _) hb5 _, ?_⟩
      simp only [Option.isSome_some, Bool.true_and, Bool.true_or]
      exact AV.leS_refl _ _ _
    · rw [decide_eq_false hlow]
      conv => whnf
      refine ⟨_, _, St.upd_same _ _ _, ?_⟩
      conv => whnf
      refine ⟨.ag [.bool n2, .sl .any 1 l2], (hof _).mono ?_, ?_⟩
      · rintro o S' ⟨rfl, rfl⟩; exact ⟨rfl, rfl⟩
      conv => whnf
      refine ⟨.int .i64 cv, (hc _).mono ?_, ?_⟩
      · rintro o S' ⟨rfl, rfl⟩; exact ⟨rfl, rfl⟩
      conv => whnf
      refine ⟨_, _, ⟨rfl, rfl⟩, St.le_upd' (St.le_refl _) hb5 _, ?_⟩
      simp only [Option.isSome_some, Bool.true_and, Bool.false_or, Option.getD_some]
      rw [show decide (cv ≥ 0) = decide (low ≤ z) from decide_eq_decide.2 hcl]
      exact AV.leS_refl _ _ _
/-! ### Lit -/
theorem litV_val (l : List UInt8) : litV l = if Lib.hasPrefix (Lib.trimPrefix l [126]) [120] = true then (match parseI (Lib.trimPrefix (Lib.trimPrefix l [126]) [120]) with
    | some z => if 1 ≤ z ∧ z ≤ 1073741824 then (if Lib.hasPrefix l [126] = true then -z else z) else 0
    | none => 0) else 0 := by
  unfold litV
  dsimp only
  by_cases h1 : Lib.hasPrefix (Lib.trimPrefix l [126]) [120] = true
  · rw [if_pos h1]
    cases hp : parseI (Lib.trimPrefix (Lib.trimPrefix l [126]) [120]) with
    | none => rw [if_pos (.inr (.inl rfl))]
    | some z =>
      simp only [Option.getD_some, Option.isSome_some]
      by_cases hn : near z
      · have hs : smallV z = (z, true) := by unfold smallV; rw [if_pos hn]
        rw [hs]
        by_cases hz : 1 ≤ z ∧ z ≤ 1073741824
        · rw [if_neg (by rw [h1]; simp; omega), if_pos hz]
        · rw [if_pos (by simp; omega), if_neg hz]
      · rw [if_neg (show ¬ (1 ≤ z ∧ z ≤ 1073741824) by unfold near at hn; omega)]
        refine if_pos ?_
        by_cases h2 : (smallV z).2 = true
        · by_cases h3 : 1 ≤ (smallV z).1
          · exact .inr (.inr (.inr (.inr (small_far hn h2 h3))))
          · exact .inr (.inr (.inr (.inl (by omega))))
        · exact .inr (.inr (.inl (by simpa using h2)))
  · rw [if_neg h1, if_pos (.inl (by simpa using h1))]
end Go.Proofs.YtcpdgnkhkdddhaaGreatDoor.Aw

set_option maxRecDepth 100000
set_option linter.unusedVariables false
set_option linter.unusedSimpArgs false
namespace Go.Proofs.YtcpdgnkhkdddhaaGreatDoor.Aw
open Go Go.RowKit
variable {G : Nat → Option (List AV)}

theorem parseI_minus {r : List UInt8} {z : Int} (h : parseI (45 :: r) = some z) : z ≤ 0 := by
  unfold parseI at h
  have hp : Lib.hasPrefix ((45 : UInt8) :: r) [45] = true := by simp [Lib.hasPrefix, List.isPrefixOf]
  rw [hp] at h
  dsimp only at h
  split at h
  · cases h
  · simp only [if_true, Option.some.injEq] at h
    omega
theorem hasPrefix_cons (c x : UInt8) (r : List UInt8) : Lib.hasPrefix (c :: r) [x] = true ↔ c = x := by
  simp [Lib.hasPrefix, List.isPrefixOf]
  exact ⟨fun h => h.symm, fun h => h.symm⟩
theorem byteAt_one (c e : UInt8) (r : List UInt8) : byteAt ⟨(c :: e :: r).toArray⟩ 1 = (e.toNat : Int) := by simp [byteAt]
theorem u8_ne {c x : UInt8} (h : c ≠ x) : ((c.toNat : Int) == (x.toNat : Int)) = false := beq_false_of_ne fun e => h (UInt8.toNat_inj.1 (by omega))
theorem Lit_s (l0 : List UInt8) (hl : l0.length ≤ 9000000) (S : St) : Triple P (C G) 136 [.str ⟨l0.toArray⟩] S fun o S' => o = .ret (.int .i64 (litV l0)) ∧ S' = S := by
  have hL := litV_val l0
  have hsz0 := size_arr l0
  obtain ⟨X, hX⟩ : ∃ X, X = litV l0 := ⟨_, rfl⟩
  rw [← hX] at hL ⊢
  refine triple_of_awp (hT G) hm Tryz.func136 rfl (by decide +kernel) rfl (by decide +kernel) (by show 1 ≤ _; decide +kernel) rfl ?_
  refine awp_seq2 fun K hK hQ => ?_
  conv => whnf
  refine hK _ _ ?_
  clear hK hQ K
  by_cases h126 : Lib.hasPrefix l0 [126] = true
  · obtain ⟨d, rfl, htr⟩ := hasPrefix_one h126
    rw [htr, h126] at hL
    have hdl : d.length ≤ 9000000 := by simp at hl; omega
    have hby : byteAt ⟨((126 : UInt8) :: d).toArray⟩ (0 : Int).toNat = 126 := byteAt_cons 126 d
    have hex : (⟨((126 : UInt8) :: d).toArray⟩ : ByteArray).extract (1 : Int).toNat ((⟨((126 : UInt8) :: d).toArray⟩ : ByteArray).size : Int).toNat = ⟨d.toArray⟩ := by rw [extract_list, hsz0]; simp
    refine awp_seq2 fun K hK hQ => ?_
    conv => whnf
    rw [show decide (((⟨((126 : UInt8) :: d).toArray⟩ : ByteArray).size : Int) > 0) = true from decide_eq_true (by rw [hsz0]; simp <;> omega)]
    conv => whnf
    refine ⟨⟨by decide, by rw [hsz0]; simp <;> omega⟩, ?_⟩
    conv => whnf
    rw [show (byteAt ⟨((126 : UInt8) :: d).toArray⟩ (0 : Int).toNat == 126) = true from by rw [hby]; rfl]
    refine hK _ _ ?_
    clear hK hQ K
    refine awp_seq2 fun K hK hQ => ?_
    conv => whnf
    refine ⟨⟨by decide, by rw [hsz0]; simp <;> omega, by omega⟩, ?_⟩
    conv => whnf
    rw [hex]
    refine hK _ _ ?_
    clear hK hQ K
    generalize hl00 : (126 : UInt8) :: d = l0 at *
    cases d with
    | nil =>
      rw [show X = 0 from hL.trans (by rfl)]
      refine awp_seq2 fun K hK hQ => ?_
      conv => whnf
      refine hQ _ _ _ (by simp) ?_
      conv => whnf
      exact ⟨_, _, ⟨rfl, rfl⟩, St.le_refl _, AV.leS_refl _ _ _⟩
    | cons c r =>
      cases r with
      | nil =>
        rw [show X = 0 from hL.trans (by
          by_cases h : Lib.hasPrefix [c] [120] = true
          · rw [if_pos h]
            have : c = 120 := (hasPrefix_cons _ _ _).1 h
            subst this
            rfl
          · rw [if_neg h])]
        refine awp_seq2 fun K hK hQ => ?_
        conv => whnf
        refine hQ _ _ _ (by simp) ?_
        conv => whnf
        exact ⟨_, _, ⟨rfl, rfl⟩, St.le_refl _, AV.leS_refl _ _ _⟩
      | cons e r =>
        have hsz := size_arr (c :: e :: r)
        have hb0 : byteAt ⟨(c :: e :: r).toArray⟩ (0 : Int).toNat = (c.toNat : Int) := byteAt_cons c _
        have hb1 : byteAt ⟨(c :: e :: r).toArray⟩ (1 : Int).toNat = (e.toNat : Int) := byteAt_one c e r
        have hex : (⟨(c :: e :: r).toArray⟩ : ByteArray).extract (1 : Int).toNat ((⟨(c :: e :: r).toArray⟩ : ByteArray).size : Int).toNat = ⟨(e :: r).toArray⟩ := by
          rw [extract_list, hsz, Int.toNat_natCast, List.take_length]; rfl
        by_cases hc : c = 120
        · subst hc
          have hpx : Lib.hasPrefix ((120 : UInt8) :: e :: r) [120] = true := (hasPrefix_cons _ _ _).2 rfl
          have htx : Lib.trimPrefix ((120 : UInt8) :: e :: r) [120] = e :: r := by unfold Lib.trimPrefix; rw [if_pos hpx]; rfl
          rw [if_pos hpx, htx] at hL
          by_cases he : e = 45
          · subst he
            rw [show X = 0 from hL.trans (by
              cases hp : parseI (45 :: r) with
              | none => rfl
              | some z => have := parseI_minus hp; simp only; rw [if_neg (by omega)])]
            refine awp_seq2 fun K hK hQ => ?_
            conv => whnf
            rw [show decide (((⟨((120 : UInt8) :: 45 :: r).toArray⟩ : ByteArray).size : Int) < 2) = false from decide_eq_false (by rw [hsz]; simp <;> omega)]
            conv => whnf
            refine ⟨⟨by decide, by rw [hsz]; simp <;> omega⟩, ?_⟩
            conv => whnf
            rw [show (byteAt ⟨((120 : UInt8) :: 45 :: r).toArray⟩ (0 : Int).toNat != 120) = false from by rw [hb0]; rfl]
            conv => whnf
            refine ⟨⟨by decide, by rw [hsz]; simp <;> omega⟩, ?_⟩
            conv => whnf
            rw [show (byteAt ⟨((120 : UInt8) :: 45 :: r).toArray⟩ (1 : Int).toNat == 45) = true from by rw [hb1]; rfl]
            conv => whnf
            refine hQ _ _ _ (by simp) ?_
            conv => whnf
            exact ⟨_, _, ⟨rfl, rfl⟩, St.le_refl _, AV.leS_refl _ _ _⟩
          · refine awp_seq2 fun K hK hQ => ?_
            conv => whnf
            rw [show decide (((⟨((120 : UInt8) :: e :: r).toArray⟩ : ByteArray).size : Int) < 2) = false from decide_eq_false (by rw [hsz]; simp <;> omega)]
            conv => whnf
            refine ⟨⟨by decide, by rw [hsz]; simp <;> omega⟩, ?_⟩
            conv => whnf
            rw [show (byteAt ⟨((120 : UInt8) :: e :: r).toArray⟩ (0 : Int).toNat != 120) = false from by rw [hb0]; rfl]
            conv => whnf
            refine ⟨⟨by decide, by rw [hsz]; simp <;> omega⟩, ?_⟩
            conv => whnf
            rw [show (byteAt ⟨((120 : UInt8) :: e :: r).toArray⟩ (1 : Int).toNat == 45) = false from by rw [hb1]; exact u8_ne he]
            conv => whnf
            refine hK _ _ ?_
            clear hK hQ K
            have hrp := fun S => Parse1_s (G := G) (e :: r) (by simp at hdl ⊢; omega) S
            generalize hqq : e :: r = q at *
            have hq45 : Lib.hasPrefix q [45] = false := by
              rw [← hqq]
              cases hh : Lib.hasPrefix (e :: r) [45] with
              | false => rfl
              | true => exact absurd ((hasPrefix_cons _ _ _).1 hh) he
            obtain ⟨z, ok, hz, hok⟩ : ∃ z ok, (parseI q).getD 0 = z ∧ (parseI q).isSome = ok := ⟨_, _, rfl, rfl⟩
            rw [hz, hok] at hrp
            obtain ⟨n1, l1, e1⟩ : ∃ n l, refI z = .ag [.bool n, .sl .any 1 l] := ⟨_, _, rfl⟩
            have hsm := fun S => Small1_ok (G := G) z S
            rw [e1] at hrp hsm
            obtain ⟨v, sm, hv⟩ : ∃ v sm, small1 z = (v, sm) := ⟨_, _, rfl⟩
            rw [hv] at hsm
            have hil := fun S => IsLit_ok (G := G) v S
            have hval : X = if ok = true ∧ sm = true ∧ isLitV v = true then (if true = true then -v else v) else 0 := by
              rw [hL]
              cases hp : parseI q with
              | none =>
                rw [hp] at hok
                subst hok
                rw [if_neg (by simp)]
              | some z0 =>
                rw [hp] at hok hz
                simp only [Option.getD_some] at hz
                simp only [Option.isSome_some] at hok
                subst hok hz
                have h0 : 0 ≤ z0 := by
                  unfold parseI at hp
                  rw [hq45] at hp
                  dsimp only at hp
                  split at hp
                  · cases hp
                  · simp only [Bool.false_eq_true, if_false, Option.some.injEq] at hp; omega
                simp only
                unfold small1 at hv
                by_cases h1 : 1 ≤ z0 ∧ z0 ≤ 1073741824
                · rw [if_pos (by omega)] at hv
                  obtain ⟨rfl, rfl⟩ := Prod.mk.inj hv
                  have hT : isLitV z0 = true := by unfold isLitV; exact decide_eq_true (.inl h1)
                  rw [if_pos h1]
                  simp [hT]
                · rw [if_neg h1]
                  refine (if_neg ?_).symm
                  rintro ⟨_, h2, h3⟩
                  split at hv
                  · obtain ⟨rfl, _⟩ := Prod.mk.inj hv
                    unfold isLitV at h3
                    have := of_decide_eq_true h3
                    omega
                  · obtain ⟨_, rfl⟩ := Prod.mk.inj hv
                    cases h2
            have hwn : isLitV v = true → IntKind.i64.wrap (0 - v) = -v := fun h => by
              unfold isLitV at h
              have := of_decide_eq_true h
              rw [wrap_i64 (by omega) (by omega)]; omega
            rw [hval]
            refine awp_seq2 fun K hK hQ => ?_
            conv => whnf
            refine ⟨⟨by decide, by rw [hsz]; simp <;> omega, by omega⟩, ?_⟩
            conv => whnf
            rw [hex]
            refine (hrp _).mono ?_
            rintro o T ⟨rfl, rfl⟩
            conv => whnf
            intro b4 hb4
            conv => whnf
            refine ⟨_, _, St.upd_same _ _ _, ?_⟩
            conv => whnf
            rw [St.upd_upd]
            refine hK _ _ ?_
            clear hK hQ K
            have q4 := St.upd_same T b4 (.obj 235 [.bool n1, .sl .any 1 l1])
            have hle4 := St.le_upd' (St.le_refl T) hb4 (.obj 235 [.bool n1, .sl .any 1 l1])
            generalize T.upd b4 (.obj 235 [.bool n1, .sl .any 1 l1]) = T4 at *
            refine awp_seq2 fun K hK hQ => ?_
            conv => whnf
            refine ⟨_, _, q4, ?_⟩
            conv => whnf
            refine (hsm _).mono ?_
            rintro o T ⟨rfl, rfl⟩
            conv => whnf
            refine hK _ _ ?_
            clear hK hQ K
            cases ok with
            | false =>
              rw [if_neg (by simp)]
              refine awp_seq2 fun K hK hQ => ?_
              conv => whnf
              refine hQ _ _ _ (by simp) ?_
              conv => whnf
              exact ⟨_, _, ⟨rfl, rfl⟩, hle4, AV.leS_refl _ _ _⟩
            | true =>
              cases sm with
              | false =>
                rw [if_neg (by simp)]
                refine awp_seq2 fun K hK hQ => ?_
                conv => whnf
                refine hQ _ _ _ (by simp) ?_
                conv => whnf
                exact ⟨_, _, ⟨rfl, rfl⟩, hle4, AV.leS_refl _ _ _⟩
              | true =>
                cases hlit : isLitV v with
                | false =>
                  rw [hlit] at hil
                  rw [if_neg (by simp)]
                  refine awp_seq2 fun K hK hQ => ?_
                  conv => whnf
                  refine (hil _).mono ?_
                  rintro o T ⟨rfl, rfl⟩
                  conv => whnf
                  refine hQ _ _ _ (by simp) ?_
                  conv => whnf
                  exact ⟨_, _, ⟨rfl, rfl⟩, hle4, AV.leS_refl _ _ _⟩
                | true =>
                  rw [hlit] at hil
                  rw [if_pos ⟨rfl, rfl, rfl⟩]
                  have hwn := hwn hlit
                  refine awp_seq2 fun K hK hQ => ?_
                  conv => whnf
                  refine (hil _).mono ?_
                  rintro o T ⟨rfl, rfl⟩
                  conv => whnf
                  refine hK _ _ ?_
                  clear hK hQ K
                  conv => whnf
                  rw [hwn]
                  exact ⟨_, _, ⟨rfl, rfl⟩, hle4, AV.leS_refl _ _ _⟩
        · rw [show X = 0 from hL.trans (if_neg (fun h => hc ((hasPrefix_cons _ _ _).1 h)))]
          refine awp_seq2 fun K hK hQ => ?_
          conv => whnf
          rw [show decide (((⟨(c :: e :: r).toArray⟩ : ByteArray).size : Int) < 2) = false from decide_eq_false (by rw [hsz]; simp <;> omega)]
          conv => whnf
          refine ⟨⟨by decide, by rw [hsz]; simp <;> omega⟩, ?_⟩
          conv => whnf
          rw [show (byteAt ⟨(c :: e :: r).toArray⟩ (0 : Int).toNat != 120) = true from by rw [hb0]; unfold bne; rw [show ((c.toNat : Int) == 120) = false from u8_ne hc]; rfl]
          conv => whnf
          refine hQ _ _ _ (by simp) ?_
          conv => whnf
          exact ⟨_, _, ⟨rfl, rfl⟩, St.le_refl _, AV.leS_refl _ _ _⟩
  · have h126 : Lib.hasPrefix l0 [126] = false := by simpa using h126
    rw [trimPrefix_no h126, h126] at hL
    have hfront : (l0 = [] ∨ ∃ c r, l0 = c :: r ∧ c ≠ 126) := by
      cases l0 with
      | nil => exact .inl rfl
      | cons c r => exact .inr ⟨c, r, rfl, fun e => by rw [(hasPrefix_cons _ _ _).2 e] at h126; cases h126⟩
    rcases hfront with rfl | ⟨c, r, rfl, hc⟩
    · refine awp_seq2 fun K hK hQ => ?_
      conv => whnf
      refine hK _ _ ?_
      clear hK hQ K
      refine awp_seq2 fun K hK hQ => ?_
      conv => whnf
      refine hK _ _ ?_
      clear hK hQ K
      rw [show X = 0 from hL.trans (by rfl)]
      refine awp_seq2 fun K hK hQ => ?_
      conv => whnf
      refine hQ _ _ _ (by simp) ?_
      conv => whnf
      exact ⟨_, _, ⟨rfl, rfl⟩, St.le_refl _, AV.leS_refl _ _ _⟩
    · have hby : byteAt ⟨(c :: r).toArray⟩ (0 : Int).toNat = (c.toNat : Int) := byteAt_cons c r
      refine awp_seq2 fun K hK hQ => ?_
      conv => whnf
      rw [show decide (((⟨(c :: r).toArray⟩ : ByteArray).size : Int) > 0) = true from decide_eq_true (by rw [hsz0]; simp <;> omega)]
      conv => whnf
      refine ⟨⟨by decide, by rw [hsz0]; simp <;> omega⟩, ?_⟩
      conv => whnf
      rw [show (byteAt ⟨(c :: r).toArray⟩ (0 : Int).toNat == 126) = false from by rw [hby]; exact u8_ne hc]
      refine hK _ _ ?_
      clear hK hQ K
      refine awp_seq2 fun K hK hQ => ?_
      conv => whnf
      refine hK _ _ ?_
      clear hK hQ K
      have hdl : (c :: r).length ≤ 9000000 := hl
      generalize hl00 : c :: r = d at *
      cases d with
      | nil =>
        rw [show X = 0 from hL.trans (by rfl)]
        refine awp_seq2 fun K hK hQ => ?_
        conv => whnf
        refine hQ _ _ _ (by simp) ?_
        conv => whnf
        exact ⟨_, _, ⟨rfl, rfl⟩, St.le_refl _, AV.leS_refl _ _ _⟩
      | cons c r =>
        cases r with
        | nil =>
          rw [show X = 0 from hL.trans (by
            by_cases h : Lib.hasPrefix [c] [120] = true
            · rw [if_pos h]
              have : c = 120 := (hasPrefix_cons _ _ _).1 h
              subst this
              rfl
            · rw [if_neg h])]
          refine awp_seq2 fun K hK hQ => ?_
          conv => whnf
          refine hQ _ _ _ (by simp) ?_
          conv => whnf
          exact ⟨_, _, ⟨rfl, rfl⟩, St.le_refl _, AV.leS_refl _ _ _⟩
        | cons e r =>
          have hsz := size_arr (c :: e :: r)
          have hb0 : byteAt ⟨(c :: e :: r).toArray⟩ (0 : Int).toNat = (c.toNat : Int) := byteAt_cons c _
          have hb1 : byteAt ⟨(c :: e :: r).toArray⟩ (1 : Int).toNat = (e.toNat : Int) := byteAt_one c e r
          have hex : (⟨(c :: e :: r).toArray⟩ : ByteArray).extract (1 : Int).toNat ((⟨(c :: e :: r).toArray⟩ : ByteArray).size : Int).toNat = ⟨(e :: r).toArray⟩ := by
            rw [extract_list, hsz, Int.toNat_natCast, List.take_length]; rfl
          by_cases hc : c = 120
          · subst hc
            have hpx : Lib.hasPrefix ((120 : UInt8) :: e :: r) [120] = true := (hasPrefix_cons _ _ _).2 rfl
            have htx : Lib.trimPrefix ((120 : UInt8) :: e :: r) [120] = e :: r := by unfold Lib.trimPrefix; rw [if_pos hpx]; rfl
            rw [if_pos hpx, htx] at hL
            by_cases he : e = 45
            · subst he
              rw [show X = 0 from hL.trans (by
                cases hp : parseI (45 :: r) with
                | none => rfl
                | some z => have := parseI_minus hp; simp only; rw [if_neg (by omega)])]
              refine awp_seq2 fun K hK hQ => ?_
              conv => whnf
              rw [show decide (((⟨((120 : UInt8) :: 45 :: r).toArray⟩ : ByteArray).size : Int) < 2) = false from decide_eq_false (by rw [hsz]; simp <;> omega)]
              conv => whnf
              refine ⟨⟨by decide, by rw [hsz]; simp <;> omega⟩, ?_⟩
              conv => whnf
              rw [show (byteAt ⟨((120 : UInt8) :: 45 :: r).toArray⟩ (0 : Int).toNat != 120) = false from by rw [hb0]; rfl]
              conv => whnf
              refine ⟨⟨by decide, by rw [hsz]; simp <;> omega⟩, ?_⟩
              conv => whnf
              rw [show (byteAt ⟨((120 : UInt8) :: 45 :: r).toArray⟩ (1 : Int).toNat == 45) = true from by rw [hb1]; rfl]
              conv => whnf
              refine hQ _ _ _ (by simp) ?_
              conv => whnf
              exact ⟨_, _, ⟨rfl, rfl⟩, St.le_refl _, AV.leS_refl _ _ _⟩
            · refine awp_seq2 fun K hK hQ => ?_
              conv => whnf
              rw [show decide (((⟨((120 : UInt8) :: e :: r).toArray⟩ : ByteArray).size : Int) < 2) = false from decide_eq_false (by rw [hsz]; simp <;> omega)]
              conv => whnf
              refine ⟨⟨by decide, by rw [hsz]; simp <;> omega⟩, ?_⟩
              conv => whnf
              rw [show (byteAt ⟨((120 : UInt8) :: e :: r).toArray⟩ (0 : Int).toNat != 120) = false from by rw [hb0]; rfl]
              conv => whnf
              refine ⟨⟨by decide, by rw [hsz]; simp <;> omega⟩, ?_⟩
              conv => whnf
              rw [show (byteAt ⟨((120 : UInt8) :: e :: r).toArray⟩ (1 : Int).toNat == 45) = false from by rw [hb1]; exact u8_ne he]
              conv => whnf
              refine hK _ _ ?_
              clear hK hQ K
              have hrp := fun S => Parse1_s (G := G) (e :: r) (by simp at hdl ⊢; omega) S
              generalize hqq : e :: r = q at *
              have hq45 : Lib.hasPrefix q [45] = false := by
                rw [← hqq]
                cases hh : Lib.hasPrefix (e :: r) [45] with
                | false => rfl
                | true => exact absurd ((hasPrefix_cons _ _ _).1 hh) he
              obtain ⟨z, ok, hz, hok⟩ : ∃ z ok, (parseI q).getD 0 = z ∧ (parseI q).isSome = ok := ⟨_, _, rfl, rfl⟩
              rw [hz, hok] at hrp
              obtain ⟨n1, l1, e1⟩ : ∃ n l, refI z = .ag [.bool n, .sl .any 1 l] := ⟨_, _, rfl⟩
              have hsm := fun S => Small1_ok (G := G) z S
              rw [e1] at hrp hsm
              obtain ⟨v, sm, hv⟩ : ∃ v sm, small1 z = (v, sm) := ⟨_, _, rfl⟩
              rw [hv] at hsm
              have hil := fun S => IsLit_ok (G := G) v S
              have hval : X = if ok = true ∧ sm = true ∧ isLitV v = true then (if false = true then -v else v) else 0 := by
                rw [hL]
                cases hp : parseI q with
                | none =>
                  rw [hp] at hok
                  subst hok
                  rw [if_neg (by simp)]
                | some z0 =>
                  rw [hp] at hok hz
                  simp only [Option.getD_some] at hz
                  simp only [Option.isSome_some] at hok
                  subst hok hz
                  have h0 : 0 ≤ z0 := by
                    unfold parseI at hp
                    rw [hq45] at hp
                    dsimp only at hp
                    split at hp
                    · cases hp
                    · simp only [Bool.false_eq_true, if_false, Option.some.injEq] at hp; omega
                  simp only
                  unfold small1 at hv
                  by_cases h1 : 1 ≤ z0 ∧ z0 ≤ 1073741824
                  · rw [if_pos (by omega)] at hv
                    obtain ⟨rfl, rfl⟩ := Prod.mk.inj hv
                    have hT : isLitV z0 = true := by unfold isLitV; exact decide_eq_true (.inl h1)
                    rw [if_pos h1]
                    simp [hT]
                  · rw [if_neg h1]
                    refine (if_neg ?_).symm
                    rintro ⟨_, h2, h3⟩
                    split at hv
                    · obtain ⟨rfl, _⟩ := Prod.mk.inj hv
                      unfold isLitV at h3
                      have := of_decide_eq_true h3
                      omega
                    · obtain ⟨_, rfl⟩ := Prod.mk.inj hv
                      cases h2
              have hwn : isLitV v = true → IntKind.i64.wrap (0 - v) = -v := fun h => by
                unfold isLitV at h
                have := of_decide_eq_true h
                rw [wrap_i64 (by omega) (by omega)]; omega
              rw [hval]
              refine awp_seq2 fun K hK hQ => ?_
              conv => whnf
              refine ⟨⟨by decide, by rw [hsz]; simp <;> omega, by omega⟩, ?_⟩
              conv => whnf
              rw [hex]
              refine (hrp _).mono ?_
              rintro o T ⟨rfl, rfl⟩
              conv => whnf
              intro b4 hb4
              conv => whnf
              refine ⟨_, _, St.upd_same _ _ _, ?_⟩
              conv => whnf
              rw [St.upd_upd]
              refine hK _ _ ?_
              clear hK hQ K
              have q4 := St.upd_same T b4 (.obj 235 [.bool n1, .sl .any 1 l1])
              have hle4 := St.le_upd' (St.le_refl T) hb4 (.obj 235 [.bool n1, .sl .any 1 l1])
              generalize T.upd b4 (.obj 235 [.bool n1, .sl .any 1 l1]) = T4 at *
              refine awp_seq2 fun K hK hQ => ?_
              conv => whnf
              refine ⟨_, _, q4, ?_⟩
              conv => whnf
              refine (hsm _).mono ?_
              rintro o T ⟨rfl, rfl⟩
              conv => whnf
              refine hK _ _ ?_
              clear hK hQ K
              cases ok with
              | false =>
                rw [if_neg (by simp)]
                refine awp_seq2 fun K hK hQ => ?_
                conv => whnf
                refine hQ _ _ _ (by simp) ?_
                conv => whnf
                exact ⟨_, _, ⟨rfl, rfl⟩, hle4, AV.leS_refl _ _ _⟩
              | true =>
                cases sm with
                | false =>
                  rw [if_neg (by simp)]
                  refine awp_seq2 fun K hK hQ => ?_
                  conv => whnf
                  refine hQ _ _ _ (by simp) ?_
                  conv => whnf
                  exact ⟨_, _, ⟨rfl, rfl⟩, hle4, AV.leS_refl _ _ _⟩
                | true =>
                  cases hlit : isLitV v with
                  | false =>
                    rw [hlit] at hil
                    rw [if_neg (by simp)]
                    refine awp_seq2 fun K hK hQ => ?_
                    conv => whnf
                    refine (hil _).mono ?_
                    rintro o T ⟨rfl, rfl⟩
                    conv => whnf
                    refine hQ _ _ _ (by simp) ?_
                    conv => whnf
                    exact ⟨_, _, ⟨rfl, rfl⟩, hle4, AV.leS_refl _ _ _⟩
                  | true =>
                    rw [hlit] at hil
                    rw [if_pos ⟨rfl, rfl, rfl⟩]
                    have hwn := hwn hlit
                    refine awp_seq2 fun K hK hQ => ?_
                    conv => whnf
                    refine (hil _).mono ?_
                    rintro o T ⟨rfl, rfl⟩
                    conv => whnf
                    refine hK _ _ ?_
                    clear hK hQ K
                    conv => whnf
                    exact ⟨_, _, ⟨rfl, rfl⟩, hle4, AV.leS_refl _ _ _⟩
          · rw [show X = 0 from hL.trans (if_neg (fun h => hc ((hasPrefix_cons _ _ _).1 h)))]
            refine awp_seq2 fun K hK hQ => ?_
            conv => whnf
            rw [show decide (((⟨(c :: e :: r).toArray⟩ : ByteArray).size : Int) < 2) = false from decide_eq_false (by rw [hsz]; simp <;> omega)]
            conv => whnf
            refine ⟨⟨by decide, by rw [hsz]; simp <;> omega⟩, ?_⟩
            conv => whnf
            rw [show (byteAt ⟨(c :: e :: r).toArray⟩ (0 : Int).toNat != 120) = true from by rw [hb0]; unfold bne; rw [show ((c.toNat : Int) == 120) = false from u8_ne hc]; rfl]
            conv => whnf
            refine hQ _ _ _ (by simp) ?_
            conv => whnf
            exact ⟨_, _, ⟨rfl, rfl⟩, St.le_refl _, AV.leS_refl _ _ _⟩
theorem Lit_ok (w : ByteArray) (hl : w.size ≤ 9000000) (S : St) : Triple P (C G) 136 [.str w] S fun o S' => o = .ret (.int .i64 (litV w.data.toList)) ∧ S' = S := by
  have h := Lit_s (G := G) w.data.toList (by simpa using hl) S
  rwa [show (⟨w.data.toList.toArray⟩ : ByteArray) = w from by obtain ⟨⟨l⟩⟩ := w; rfl] at h
end Go.Proofs.YtcpdgnkhkdddhaaGreatDoor.Aw

set_option maxRecDepth 100000
set_option linter.unusedVariables false
set_option linter.unusedSimpArgs false
namespace Go.Proofs.YtcpdgnkhkdddhaaGreatDoor.Aw
open Go Go.RowKit
variable {G : Nat → Option (List AV)}

def blankR (x : Nat) : Bool := decide (x = 32) || decide (x = 9)
theorem words1_ok (x : Nat) (hx : x ≤ 1114111) : TripleE P (C G) 142 [.int .i32 (x : Int)] St.emp fun o S' => o = .ret (.bool (blankR x)) ∧ S' = St.emp := by
  refine tripleE_of_awp (hT G) hm Tryz.func142 rfl (by decide +kernel) rfl (by decide +kernel) (by show 1 ≤ _; decide +kernel) rfl ?_
  conv => whnf
  refine split_of (fun h => ?_) (fun h => ?_)
  · have h : x = 32 := by have := eq_of_beq h; omega
    conv => whnf
    exact ⟨_, _, ⟨rfl, rfl⟩, St.le_refl _, by simp only [blankR, h, decide_true, Bool.true_or]; exact AV.leS_refl _ _ _⟩
  · have h : ¬ x = 32 := by intro e; subst e; simp at h
    conv => whnf
    refine ⟨_, _, ⟨rfl, rfl⟩, St.le_refl _, ?_⟩
    have e : ((x : Int) == 9) = blankR x := by
      by_cases h2 : x = 9
      · subst h2; rfl
      · simp only [blankR, h, h2, decide_false, Bool.or_self]
        exact beq_false_of_ne (by omega)
    rw [e]; exact AV.leS_refl _ _ _
theorem spans_len (p : Nat → Bool) (s : ByteArray) : ∀ (f pos : Nat) (st : Option Nat) (acc : List (Nat × Nat)), (Lib.spansFromP p s f pos st acc).1.length ≤ acc.length + f
  | 0, _, _, acc => by simp [Lib.spansFromP]
  | f + 1, pos, st, acc => by
    unfold Lib.spansFromP
    split
    · split
      · cases st with
        | none => exact Nat.le_trans (spans_len p s f _ _ _) (by omega)
        | some a => exact Nat.le_trans (spans_len p s f _ _ _) (by simp; omega)
      · cases st with
        | none => exact Nat.le_trans (spans_len p s f _ _ _) (by omega)
        | some a => exact Nat.le_trans (spans_len p s f _ _ _) (by omega)
    · show acc.length ≤ _; omega
/-- proof.words. -/
def wordsL (s : ByteArray) : List ByteArray := Lib.goFieldsP blankR s
theorem wordsL_len (s : ByteArray) : (wordsL s).length ≤ s.size + 1 := by
  unfold wordsL Lib.goFieldsP Lib.spansOfP
  rw [List.length_map]
  have := spans_len blankR s s.size 0 none []
  generalize Lib.spansFromP blankR s s.size 0 none [] = r at *
  obtain ⟨acc, st⟩ := r
  unfold Lib.closeSpans
  cases st <;> simp at * <;> omega
theorem wordsL_size (s : ByteArray) : ∀ x ∈ wordsL s, x.size ≤ s.size := by
  intro x hx
  unfold wordsL Lib.goFieldsP at hx
  obtain ⟨y, _, rfl⟩ := List.mem_map.1 hx
  rw [ByteArray.size_extract]; omega
theorem words_ok (s : ByteArray) (hs : s.size ≤ 4294967296) (S : St) : Triple P (C G) 121 [.str s] S fun o S' => o = .ret (.sl .full 1 (rowsS (wordsL s))) ∧ S' = S := by
  have hf : Triple P (C G) 141 [.str s, .fn (.func 142) [] []] S fun o S' => o = .ret (.sl .full 1 (rowsS (wordsL s))) ∧ S' = S := by
    refine Triple.of_calls (x := .sl .full 1 (rowsS (wordsL s))) Tryz.func141 rfl (by decide +kernel) (fun w vs hg hr => ?_) ⟨rfl, rfl⟩
    obtain ⟨u, v, hv, r1, r2⟩ := RelL.two hr
    simp only [Rel] at r1 r2
    obtain ⟨a1, a2, rfl, q1, q2⟩ := r2
    simp only [RelL] at q1 q2
    have e1 : a1 = #[] := by simpa using q1
    have e2 : a2 = #[] := by simpa using q2
    subst r1 e1 e2
    rw [show vs = #[.string s, .func (.func 142) #[] #[]] from arr_of_list hv]
    refine (Tryz.strings_FieldsFunc_grows 142 #[] (fun vs w => (words1_ok (G := G) 0 (by omega)).enter vs w) blankR s w hs (predGrows hg words1_ok)).mono fun e w' he => ?_
    obtain ⟨A, rfl, hA, hown, hb⟩ := he
    refine ⟨_, rfl, ?_, hb⟩
    obtain ⟨hxl, hz | ⟨g, cap, cur, hv', hbg, hg', hnc, hcm, hcs, htk⟩⟩ := hown
    · exact absurd hz.1 (by simp)
    · simp only [Value.slice.injEq, Option.some.injEq, Addr.mk.injEq] at hv'
      obtain ⟨⟨rfl, _⟩, _, rfl⟩ := hv'
      simp only [Rel]
      refine .inr ⟨A, 0, (wordsL s).length, by rw [rowsS_len]; rfl, by rw [rowsS_len]; exact Nat.le_refl _, hcm, by rw [rowsS_len]; rfl, ?_⟩
      refine RelRows.of_cells (rowsS_one _) (RelL_strs _ _ _) (fun i v hv => ?_) (fun u hu => ?_) (fun i hi => ?_)
      · have := cell_of_row _ _ i _ _ (0, 0) hg'
        rw [Nat.zero_add]
        refine this.trans ?_
        have h2 : cur.toList.take ((wordsL s).length * 1) = (wordsL s).map Value.string := htk
        rw [← h2] at hv
        rw [List.getElem?_take] at hv
        split at hv
        · simpa using hv
        · cases hv
      · obtain ⟨x, _, rfl⟩ := List.mem_map.1 hu; rfl
      · have hgS : S A = none := by
          cases e : S A with
          | none => rfl
          | some o => have := hg.1.lt e; omega
        simp only [rdOf, hgS]
  refine triple_of_awp (hT G) hm Tryz.func121 rfl (by decide +kernel) rfl (by decide +kernel) (by show 1 ≤ _; decide +kernel) rfl ?_
  conv => whnf
  refine hf.mono ?_
  rintro o S' ⟨rfl, rfl⟩
  conv => whnf
  exact ⟨_, _, ⟨rfl, rfl⟩, St.le_refl _, AV.leS_refl _ _ _⟩
end Go.Proofs.YtcpdgnkhkdddhaaGreatDoor.Aw

set_option maxRecDepth 100000
set_option linter.unusedVariables false
set_option linter.unusedSimpArgs false
namespace Go.Proofs.YtcpdgnkhkdddhaaGreatDoor.Aw
open Go Go.RowKit

/-- The byte at a place. -/
def byN (s : ByteArray) (i : Nat) : Nat := (s.data.toList.getD i 0).toNat
def blankAt (s : ByteArray) (i : Nat) : Prop := byN s i = 32 ∨ byN s i = 9
instance (s : ByteArray) (i : Nat) : Decidable (blankAt s i) := inferInstanceAs (Decidable (_ ∨ _))
/-- hallmarkref8.Words, from byte i on; the word under way began at fr. -/
def refWordsGo (s : ByteArray) (i fr : Nat) (acc : List ByteArray) : List ByteArray :=
  if h : i ≤ s.size then
    if i = s.size ∨ blankAt s i then refWordsGo s (i + 1) (i + 1) (if fr < i then acc ++ [s.extract fr i] else acc) else refWordsGo s (i + 1) fr acc
  else acc
termination_by s.size + 1 - i
theorem getN (s : ByteArray) (i : Nat) : (s.get! i).toNat = byN s i := by
  obtain ⟨⟨l⟩⟩ := s
  simp only [byN, ByteArray.get!]
  show ((⟨l⟩ : Array UInt8)[i]!).toNat = _
  by_cases h : i < l.length
  · simp [getElem!_pos, h]
  · simp [h]; rfl
theorem dec_cases (s : ByteArray) (pos : Nat) (h : pos < s.size) : (byN s pos < 128 ∧ Utf8.decode s pos = (byN s pos, 1)) ∨
    (128 ≤ byN s pos ∧ 128 ≤ (Utf8.decode s pos).1 ∧ 1 ≤ (Utf8.decode s pos).2 ∧ ∀ j, 0 < j → j < (Utf8.decode s pos).2 → pos + j < s.size ∧ 128 ≤ byN s (pos + j)) := by
  unfold Utf8.decode
  simp only [getN, Nat.add_zero]
  have hre : (128 : Nat) ≤ Utf8.runeError := by decide
  by_cases h0 : byN s pos < 128
  · rw [if_pos h0]; exact .inl ⟨h0, rfl⟩
  · rw [if_neg h0]
    refine .inr ⟨by omega, ?_⟩
    split
    · rename_i hc
      simp only [Bool.and_eq_true, decide_eq_true_eq, beq_iff_eq] at hc
      split
      · rename_i hv
        refine ⟨hv, by simp, fun j j0 j1 => ?_⟩
        simp only at j1
        obtain rfl : j = 1 := by omega
        exact ⟨hc.2.1, by omega⟩
      · exact ⟨hre, by simp, fun j j0 j1 => by simp only at j1; omega⟩
    split
    · rename_i hc
      simp only [Bool.and_eq_true, decide_eq_true_eq, beq_iff_eq] at hc
      split
      · rename_i hv
        simp only [Bool.and_eq_true, decide_eq_true_eq] at hv
        refine ⟨by simp only; omega, by simp, fun j j0 j1 => ?_⟩
        simp only at j1
        rcases (by omega : j = 1 ∨ j = 2) with rfl | rfl
        · exact ⟨hc.1.2.1, by omega⟩
        · exact ⟨hc.2.1, by omega⟩
      · exact ⟨hre, by simp, fun j j0 j1 => by simp only at j1; omega⟩
    split
    · rename_i hc
      simp only [Bool.and_eq_true, decide_eq_true_eq, beq_iff_eq] at hc
      split
      · rename_i hv
        simp only [Bool.and_eq_true, decide_eq_true_eq] at hv
        refine ⟨by simp only; omega, by simp, fun j j0 j1 => ?_⟩
        simp only at j1
        rcases (by omega : j = 1 ∨ j = 2 ∨ j = 3) with rfl | rfl | rfl
        · exact ⟨hc.1.1.2.1, by omega⟩
        · exact ⟨hc.1.2.1, by omega⟩
        · exact ⟨hc.2.1, by omega⟩
      · exact ⟨hre, by simp, fun j j0 j1 => by simp only at j1; omega⟩
    · exact ⟨hre, by simp, fun j j0 j1 => by simp only at j1; omega⟩
theorem go_skip (s : ByteArray) (fr : Nat) (acc : List ByteArray) : ∀ (w i : Nat), (∀ j, j < w → i + j < s.size ∧ ¬ blankAt s (i + j)) → refWordsGo s i fr acc = refWordsGo s (i + w) fr acc
  | 0, i, _ => rfl
  | w + 1, i, h => by
    obtain ⟨h1, h2⟩ := h 0 (by omega)
    rw [Nat.add_zero] at h1 h2
    conv => lhs; unfold refWordsGo
    rw [dif_pos (by omega), if_neg (by rintro (e | e); omega; exact h2 e)]
    rw [go_skip s fr acc w (i + 1) fun j hj => by have := h (j + 1) (by omega); rw [show i + 1 + j = i + (j + 1) by omega]; exact this]
    congr 1; omega
theorem go_spans (s : ByteArray) : ∀ (f pos : Nat) (st : Option Nat) (acc : List (Nat × Nat)), pos ≤ s.size → s.size ≤ pos + f → (∀ a, st = some a → a < pos) →
    refWordsGo s pos (st.getD pos) (acc.map fun x => s.extract x.1 x.2) = (Lib.closeSpans s (Lib.spansFromP blankR s f pos st acc)).map fun x => s.extract x.1 x.2
  | f, pos, st, acc, hp, hf, hst => by
    by_cases hlt : pos < s.size
    · obtain ⟨f, rfl⟩ : ∃ g, f = g + 1 := ⟨f - 1, by omega⟩
      conv => rhs; unfold Lib.spansFromP
      rw [if_pos hlt]
      rcases dec_cases s pos hlt with ⟨h1, h2⟩ | ⟨h1, h2, h3, h4⟩
      · rw [h2]
        by_cases hb : blankAt s pos
        · have hbr : blankR (byN s pos) = true := by
            unfold blankAt at hb
            simp [blankR]
            exact hb
          simp only [hbr, if_true]
          conv => lhs; unfold refWordsGo
          rw [dif_pos hp, if_pos (.inr hb)]
          cases st with
          | none =>
            simp only [Option.getD_none]
            rw [if_neg (by omega)]
            exact go_spans s f (pos + 1) none acc (by omega) (by omega) (fun a e => by cases e)
          | some a =>
            have ha := hst a rfl
            simp only [Option.getD_some]
            rw [if_pos ha]
            have := go_spans s f (pos + 1) none (acc ++ [(a, pos)]) (by omega) (by omega) (fun a e => by cases e)
            simpa using this
        · have hbr : blankR (byN s pos) = false := by
            unfold blankAt at hb
            simp [blankR]
            omega
          simp only [hbr, Bool.false_eq_true, if_false]
          rw [go_skip s _ _ 1 pos fun j hj => by obtain rfl : j = 0 := by omega
                                                 exact ⟨hlt, hb⟩]
          cases st with
          | none => exact go_spans s f (pos + 1) (some pos) acc (by omega) (by omega) (fun a e => by cases e; omega)
          | some a => exact go_spans s f (pos + 1) (some a) acc (by omega) (by omega) (fun b e => by cases e; have := hst a rfl; omega)
      · have hbr : blankR (Utf8.decode s pos).1 = false := by
          simp [blankR]
          omega
        simp only [hbr, Bool.false_eq_true, if_false]
        generalize (Utf8.decode s pos).2 = w at *
        have hnb : ∀ j, j < w → pos + j < s.size ∧ ¬ blankAt s (pos + j) := fun j hj => by
          by_cases h0 : j = 0
          · subst h0
            refine ⟨hlt, fun hb => ?_⟩
            unfold blankAt at hb
            rw [Nat.add_zero] at hb
            omega
          · obtain ⟨a, b⟩ := h4 j (by omega) hj
            refine ⟨a, fun hb => ?_⟩
            unfold blankAt at hb
            omega
        have hlast := (hnb (w - 1) (by omega)).1
        rw [go_skip s _ _ w pos hnb]
        cases st with
        | none => exact go_spans s f (pos + w) (some pos) acc (by omega) (by omega) (fun a e => by cases e; omega)
        | some a => exact go_spans s f (pos + w) (some a) acc (by omega) (by omega) (fun b e => by cases e; have := hst a rfl; omega)
    · have he : pos = s.size := by omega
      rw [Lib.spansFromP_end _ _ _ _ _ _ hlt]
      conv => lhs; unfold refWordsGo
      rw [dif_pos hp, if_pos (.inl he)]
      unfold refWordsGo
      rw [dif_neg (by omega)]
      cases st with
      | none => simp [Lib.closeSpans]
      | some a =>
        have := hst a rfl
        simp only [Option.getD_some, Lib.closeSpans]
        rw [if_pos this, he]
        simp
termination_by f => f
theorem refWords_eq (s : ByteArray) : refWordsGo s 0 0 [] = wordsL s := by
  have := go_spans s s.size 0 none [] (by omega) (by omega) (fun a e => by cases e)
  unfold wordsL Lib.goFieldsP Lib.spansOfP
  simpa using this
end Go.Proofs.YtcpdgnkhkdddhaaGreatDoor.Aw

set_option maxRecDepth 100000
set_option linter.unusedVariables false
namespace Go.Proofs.YtcpdgnkhkdddhaaGreatDoor.Aw
open Go Go.RowKit
variable {G : Nat → Option (List AV)}

/-- A fault of no line. -/
def failAV (e : Int) : AV := .ifc 72 (.imm [.int .i64 2, .int .i64 0, .int .i64 e])
theorem fail_ok (e : Int) (S : St) : Triple P (C G) 124 [.int .i64 e] S fun o S' => o = .ret (failAV e) ∧ S' = S := by
  refine triple_of_awp (hT G) hm Tryz.func124 rfl (by decide +kernel) rfl (by decide +kernel) (by show 1 ≤ _; decide +kernel) rfl ?_
  conv => whnf
  intro b hb
  conv => whnf
  exact ⟨_, S, ⟨rfl, rfl⟩, St.le_upd' (St.le_refl S) hb _, rfl, hb, _, _, St.upd_same _ _ _, rfl⟩
def rdr (l : List ByteArray) (cs : List AV) : Own := .obj 208 (.sl .any 1 (rowsS l) :: cs)
def errAV (e : Int) : AV := if e = 0 then .nili else failAV e
theorem rtake_ok (b : Nat) (l : List ByteArray) (cs : List AV) (S : St) (hS : S b = some (rdr l cs)) :
    Triple P (C G) 122 [.ref b 0] S fun o S' => match l with
      | [] => o = .ret (.tu [.str ⟨#[]⟩, failAV 82]) ∧ S' = S
      | w :: l' => o = .ret (.tu [.str w, .nili]) ∧ S' = S.upd b (rdr l' cs) := by
  refine triple_of_awp (hT G) hm Tryz.func122 rfl (by decide +kernel) rfl (by decide +kernel) (by show 1 ≤ _; decide +kernel) rfl ?_
  conv => whnf
  refine ⟨_, _, hS, ?_⟩
  conv => whnf
  intro hlen
  cases l with
  | nil =>
    conv => whnf
    refine (fail_ok 82 S).mono ?_
    rintro o S' ⟨rfl, rfl⟩
    conv => whnf
    exact ⟨_, S', ⟨rfl, rfl⟩, St.le_refl _, AV.leS_refl _ _ _⟩
  | cons w l' =>
    conv => whnf
    refine ⟨_, _, hS, ?_⟩
    conv => whnf
    refine ⟨_, ⟨by omega, rfl⟩, ?_⟩
    conv => whnf
    refine ⟨_, _, hS, ?_⟩
    conv => whnf
    refine ⟨⟨by decide, by simp only [rowsS_len, List.length_cons]; omega, by omega⟩, ?_⟩
    conv => whnf
    refine ⟨_, _, hS, ?_⟩
    rw [forceL_eq]
    conv => whnf
    exact ⟨_, _, ⟨rfl, rfl⟩, (by
      have e1 : List.drop (Int.toNat 1) (List.take ((((rowsS (w :: l')).length : Nat) : Int).toNat) (rowsS (w :: l'))) = rowsS l' := by
        simp [rowsS]
        exact List.take_of_length_le (by simp)
      show St.le (S.upd b (rdr l' cs)) (S.upd b (.obj _ (.sl .any 1 _ :: cs)))
      rw [e1]; exact St.le_refl _), AV.leS_refl _ _ _⟩
theorem rend_ok (b : Nat) (l : List ByteArray) (cs : List AV) (S : St) (hS : S b = some (rdr l cs)) :
    Triple P (C G) 125 [.ref b 0] S fun o S' => o = .ret (if l = [] then .nili else failAV 80) ∧ S' = S := by
  refine triple_of_awp (hT G) hm Tryz.func125 rfl (by decide +kernel) rfl (by decide +kernel) (by show 1 ≤ _; decide +kernel) rfl ?_
  conv => whnf
  refine ⟨_, _, hS, ?_⟩
  conv => whnf
  intro hlen
  cases l with
  | nil =>
    conv => whnf
    exact ⟨_, S, ⟨rfl, rfl⟩, St.le_refl _, AV.leS_refl _ _ _⟩
  | cons w l' =>
    conv => whnf
    refine split_of (fun h => ?_) (fun h => by simp [rowsS] at h)
    conv => whnf
    refine (fail_ok 80 S).mono ?_
    rintro o S' ⟨rfl, rfl⟩
    conv => whnf
    exact ⟨_, S', ⟨rfl, rfl⟩, St.le_refl _, AV.leS_refl _ _ _⟩
theorem rnext_ok (b : Nat) (l : List ByteArray) (cs : List AV) (x : ByteArray) (S : St) (hS : S b = some (rdr l cs)) :
    Triple P (C G) 196 [.ref b 0, .str x] S fun o S' => o = .ret (.bool (decide (l.head? = some x))) ∧ S' = S := by
  refine triple_of_awp (hT G) hm Tryz.func196 rfl (by decide +kernel) rfl (by decide +kernel) (by show 2 ≤ _; decide +kernel) rfl ?_
  conv => whnf
  refine ⟨_, _, hS, ?_⟩
  conv => whnf
  intro hlen
  cases l with
  | nil =>
    conv => whnf
    exact ⟨_, S, ⟨rfl, rfl⟩, St.le_refl _, AV.leS_refl _ _ _⟩
  | cons w l' =>
    conv => whnf
    refine split_of (fun h => ?_) (fun h => by simp [rowsS] at h)
    conv => whnf
    refine ⟨_, _, hS, ?_⟩
    conv => whnf
    refine ⟨_, ⟨by omega, rfl⟩, ?_⟩
    conv => whnf
    exact ⟨_, S, ⟨rfl, rfl⟩, St.le_refl _, congrArg AV.bool (by simp)⟩
/-- What is left, and the error's number (0: none). -/
def exactG : List ByteArray → List ByteArray → List ByteArray × Int
  | l, [] => (l, 0)
  | [], _ :: _ => ([], 82)
  | w :: l, x :: xs => if w = x then exactG l xs else (l, 80)
set_option maxHeartbeats 1000000 in
theorem exactly_ok (b : Nat) (l : List ByteArray) (cs : List AV) (xs : List ByteArray) (hxs : xs.length ≤ 1000000) (S : St) (hS : S b = some (rdr l cs)) :
    Triple P (C G) 174 [.ref b 0, .sl .any 1 (rowsS xs)] S fun o S' => o = .ret (errAV (exactG l xs).2) ∧ S' = S.upd b (rdr (exactG l xs).1 cs) := by
  refine triple_of_awp (hT G) hm Tryz.func174 rfl (by decide +kernel) rfl (by decide +kernel) (by show 2 ≤ _; decide +kernel) rfl ?_
  conv => whnf
  intro hlen
  conv => whnf
  refine ⟨⟨Nat × List ByteArray, fun (i, l') => [(0, .ref b 0), (9, .sl .any 1 (rowsS xs)), (10, .int .i64 (xs.length : Int)), (11, .int .i64 (i : Int))],
    fun (i, l') S' => S' = S.upd b (rdr l' cs) ∧ i ≤ xs.length ∧ exactG l' (xs.drop i) = exactG l xs, fun (i, _) => xs.length - i⟩,
    ⟨(0, l), ⟨rfl, ⟨rfl, rfl⟩, congrArg (AV.int .i64) (by simp [rowsS]), rfl, trivial⟩, ⟨_, St.leW_refl _, (St.upd_self hS).symm, by omega, rfl⟩⟩, ?_⟩
  rintro ⟨i, l'⟩ S₁ ⟨rfl, h2, h3⟩
  have hS₁ : (S.upd b (rdr l' cs)) b = some (rdr l' cs) := St.upd_same _ _ _
  conv => whnf
  refine split_of (fun hlt => ?_) (fun hlt => ?_)
  · have hlt : i < xs.length := by simpa using hlt
    have w1 : IntKind.i64.wrap ((i : Int) + 1) = ((i + 1 : Nat) : Int) := wrap_nat (by omega)
    have hd : xs.drop i = xs[i] :: xs.drop (i + 1) := List.drop_eq_getElem_cons hlt
    rw [hd] at h3
    conv => whnf
    refine ⟨[.str xs[i]], ⟨by omega, by simp [rowsS, hlt]⟩, ?_⟩
    conv => whnf
    refine (rtake_ok b l' cs _ hS₁).mono ?_
    cases l' with
    | nil =>
      rintro o S' ⟨rfl, rfl⟩
      conv => whnf
      rw [← h3]
      exact ⟨_, _, ⟨rfl, rfl⟩, St.le_refl _, AV.leS_refl _ _ _⟩
    | cons w l'' =>
      rintro o S' ⟨rfl, rfl⟩
      rw [St.upd_upd]
      conv => whnf
      refine split_of (fun hw => ?_) (fun hw => ?_)
      · have hw : ¬ w = xs[i] := by simpa using hw
        have h4 : exactG l xs = (l'', 80) := by rw [← h3]; simp [exactG, hw]
        conv => whnf
        refine (fail_ok 80 _).mono ?_
        rintro o S' ⟨rfl, rfl⟩
        conv => whnf
        rw [h4]
        exact ⟨_, _, ⟨rfl, rfl⟩, St.le_refl _, AV.leS_refl _ _ _⟩
      · have hw : w = xs[i] := by simpa using hw
        conv => whnf
        refine ⟨(i + 1, l''), ⟨rfl, ⟨rfl, rfl⟩, rfl, congrArg _ w1, trivial⟩, ⟨_, St.leW_refl _, rfl, by omega, ?_⟩, by show xs.length - (i + 1) < xs.length - i; omega⟩
        rw [← h3]; simp [exactG, hw]
  · have hlt : ¬ i < xs.length := by simpa using hlt
    have hd : xs.drop i = [] := List.drop_eq_nil_of_le (by omega)
    rw [hd] at h3
    have h4 : exactG l xs = (l', 0) := by rw [← h3]; cases l' <;> rfl
    conv => whnf
    rw [h4]
    exact ⟨_, _, ⟨rfl, rfl⟩, St.le_refl _, AV.leS_refl _ _ _⟩
end Go.Proofs.YtcpdgnkhkdddhaaGreatDoor.Aw

/-
  Package proof, walked: isNumber, literal.
  Package proof, walked: words; the reader's small functions.
  Package proof's reader: its state; number, lit, ids, lits.
  Package proof's reader: ids, lits.
  Package proof's reader: row.
  Package proof's reader: the lines but pol and conclusion.
-/
import Derived.Test.YtdlgedpmbeafdaaGreatDoorPab8
import Derived.Test.YtdlgedpmbeafdaaGreatDoorPab5
set_option maxRecDepth 100000
set_option linter.unusedVariables false
set_option linter.unusedSimpArgs false
namespace Go.Proofs.YtdlgedpmbeafdaaGreatDoor.Aw
open Go Go.RowKit
variable {G : Nat → Option (List AV)}

theorem trimPrefix_len (l p : List UInt8) : (Lib.trimPrefix l p).length ≤ l.length := by
  unfold Lib.trimPrefix
  split <;> simp
theorem okZ_parse (l : List UInt8) {k : Nat} (hl : l.length ≤ k) : okZ ((parseI l).getD 0) k := by
  unfold okZ
  refine limbs_len _ _ ?_
  have h1 : ((parseI l).getD 0).natAbs < 10 ^ l.length := by
    unfold parseI
    simp only []
    split
    · exact Nat.pow_pos (by decide)
    · rename_i h
      have hd : (Lib.trimPrefix l [45]).all digitB = true := by
        cases hh : (Lib.trimPrefix l [45]).all digitB with
        | true => rfl
        | false => exact absurd (Or.inr (Or.inr hh)) h
      have := decV_lt _ hd
      have h2 := Nat.pow_le_pow_right (n := 10) (by decide) (trimPrefix_len l [45])
      simp only [Option.getD_some]
      split <;> simp <;> omega
  refine Nat.lt_of_lt_of_le h1 ?_
  rw [show (1000000000 : Nat) = 10 ^ 9 by decide, ← Nat.pow_mul]
  exact Nat.pow_le_pow_right (by decide) (by omega)
/-- proof.isNumber. -/
def isNumV (l : List UInt8) (low : Int) : Bool := (parseI l).isSome && (decide (low < 0) || decide (low ≤ (parseI l).getD 0))
theorem isNumber_ok (s : ByteArray) (hs : s.size ≤ 9000000) (low : Int) (h0 : -9223372036854775808 ≤ low) (h1 : low ≤ 9223372036854775807) (S : St) :
    Triple P (C G) 98 [.str s, .int .i64 low] S fun o S' => o = .ret (.bool (isNumV s.data.toList low)) ∧ S' = S := by
  have hp := fun S => Parse_ok (G := G) s (by omega) S
  have hsl : s.data.toList.length = s.size := by rw [Array.length_toList]; rfl
  have hz := okZ_parse s.data.toList (k := 9000000) (by omega)
  have hz2 : okZ low 9000000 := by
    unfold okZ
    refine Nat.le_trans (limbs_len 3 _ (by omega)) (by decide)
  have ho := fun S => Of_ok (G := G) low h0 h1 S
  unfold isNumV
  generalize hpi : parseI s.data.toList = pz at *
  have hcmp := fun S => Cmp_ok (G := G) (pz.getD 0) low hz hz2 S
  have hsg : decide (bSign (pz.getD 0 - low) ≥ 0) = decide (low ≤ pz.getD 0) := by
    unfold bSign
    by_cases h : pz.getD 0 - low < 0
    · simp [h]; omega
    · rw [if_neg h]
      by_cases h' : pz.getD 0 - low = 0
      · simp [h']; omega
      · rw [if_neg h']; simp; omega
  generalize hzz : pz.getD 0 = z at *
  rw [← hsg]
  clear hsg
  generalize pz.isSome = f at *
  by_cases hx : near z
  · rw [bigAV_near hx] at *
    by_cases hl : near low
    · rw [bigAV_near hl] at *
      refine triple_of_awp (hT G) hm Tryz.func98 rfl (by decide +kernel) rfl (by decide +kernel) (by show 2 ≤ _; decide +kernel) rfl ?_
      conv => whnf
      refine (hp _).mono ?_
      rintro o S' ⟨rfl, rfl⟩
      conv => whnf
      intro b5 hb5
      conv => whnf
      refine ⟨_, _, St.upd_same _ _ _, ?_⟩
      conv => whnf
      refine ⟨[8, 9], (.free 0 (.free 1 (.free 2 (.free 3 (.free 4 (.free 5 (.free 6 (.free 7 (.free 8 (.free 9 (.free 10 (.free 11 (.free 12 (.free 13 .done)))))))))))))), _, by decide +kernel, ?_, fun _ _ h => ⟨_, .inl rfl, h⟩⟩
      cases f with
      | false =>
        conv => whnf
        exact ⟨_, _, ⟨rfl, rfl⟩, by rw [St.upd_upd]; exact St.le_upd' (St.le_refl _) hb5 _, AV.leS_refl _ _ _⟩
      | true =>
        conv => whnf
        cases hd : decide (low < 0) with
        | true =>
          rw [hd] at *
          conv => whnf
          exact ⟨_, _, ⟨rfl, rfl⟩, by rw [St.upd_upd]; exact St.le_upd' (St.le_refl _) hb5 _, AV.leS_refl _ _ _⟩
        | false =>
          rw [hd] at *
          conv => whnf
          refine ⟨_, _, St.upd_same _ _ _, ?_⟩
          conv => whnf
          refine ⟨nearAV low, (ho _).mono ?_, ?_⟩
          · rintro o S' ⟨rfl, rfl⟩; exact ⟨rfl, rfl⟩
          conv => whnf
          refine ⟨.int .i64 (bSign (z - low)), (hcmp _).mono ?_, ?_⟩
          · rintro o S' ⟨rfl, rfl⟩; exact ⟨rfl, rfl⟩
          conv => whnf
          exact ⟨_, _, ⟨rfl, rfl⟩, by rw [St.upd_upd]; exact St.le_upd' (St.le_refl _) hb5 _, AV.leS_refl _ _ _⟩
    · rw [bigAV_far hl] at *
      refine triple_of_awp (hT G) hm Tryz.func98 rfl (by decide +kernel) rfl (by decide +kernel) (by show 2 ≤ _; decide +kernel) rfl ?_
      conv => whnf
      refine (hp _).mono ?_
      rintro o S' ⟨rfl, rfl⟩
      conv => whnf
      intro b5 hb5
      conv => whnf
      refine ⟨_, _, St.upd_same _ _ _, ?_⟩
      conv => whnf
      refine ⟨[8, 9], (.free 0 (.free 1 (.free 2 (.free 3 (.free 4 (.free 5 (.free 6 (.free 7 (.free 8 (.free 9 (.free 10 (.free 11 (.free 12 (.free 13 .done)))))))))))))), _, by decide +kernel, ?_, fun _ _ h => ⟨_, .inl rfl, h⟩⟩
      cases f with
      | false =>
        conv => whnf
        exact ⟨_, _, ⟨rfl, rfl⟩, by rw [St.upd_upd]; exact St.le_upd' (St.le_refl _) hb5 _, AV.leS_refl _ _ _⟩
      | true =>
        conv => whnf
        cases hd : decide (low < 0) with
        | true =>
          rw [hd] at *
          conv => whnf
          exact ⟨_, _, ⟨rfl, rfl⟩, by rw [St.upd_upd]; exact St.le_upd' (St.le_refl _) hb5 _, AV.leS_refl _ _ _⟩
        | false =>
          rw [hd] at *
          conv => whnf
          refine ⟨_, _, St.upd_same _ _ _, ?_⟩
          conv => whnf
          refine ⟨farAV (decide (low < 0)) (limbs low.natAbs), (ho _).mono ?_, ?_⟩
          · rintro o S' ⟨rfl, rfl⟩; exact ⟨rfl, rfl⟩
          conv => whnf
          refine ⟨.int .i64 (bSign (z - low)), (hcmp _).mono ?_, ?_⟩
          · rintro o S' ⟨rfl, rfl⟩; exact ⟨rfl, rfl⟩
          conv => whnf
          exact ⟨_, _, ⟨rfl, rfl⟩, by rw [St.upd_upd]; exact St.le_upd' (St.le_refl _) hb5 _, AV.leS_refl _ _ _⟩
  · rw [bigAV_far hx] at *
    by_cases hl : near low
    · rw [bigAV_near hl] at *
      refine triple_of_awp (hT G) hm Tryz.func98 rfl (by decide +kernel) rfl (by decide +kernel) (by show 2 ≤ _; decide +kernel) rfl ?_
      conv => whnf
      refine (hp _).mono ?_
      rintro o S' ⟨rfl, rfl⟩
      conv => whnf
      intro b5 hb5
      conv => whnf
      refine ⟨_, _, St.upd_same _ _ _, ?_⟩
      conv => whnf
      refine ⟨[8, 9], (.free 0 (.free 1 (.free 2 (.free 3 (.free 4 (.free 5 (.free 6 (.free 7 (.free 8 (.free 9 (.free 10 (.free 11 (.free 12 (.free 13 .done)))))))))))))), _, by decide +kernel, ?_, fun _ _ h => ⟨_, .inl rfl, h⟩⟩
      cases f with
      | false =>
        conv => whnf
        exact ⟨_, _, ⟨rfl, rfl⟩, by rw [St.upd_upd]; exact St.le_upd' (St.le_refl _) hb5 _, AV.leS_refl _ _ _⟩
      | true =>
        conv => whnf
        cases hd : decide (low < 0) with
        | true =>
          rw [hd] at *
          conv => whnf
          exact ⟨_, _, ⟨rfl, rfl⟩, by rw [St.upd_upd]; exact St.le_upd' (St.le_refl _) hb5 _, AV.leS_refl _ _ _⟩
        | false =>
          rw [hd] at *
          conv => whnf
          refine ⟨_, _, St.upd_same _ _ _, ?_⟩
          conv => whnf
          refine ⟨nearAV low, (ho _).mono ?_, ?_⟩
          · rintro o S' ⟨rfl, rfl⟩; exact ⟨rfl, rfl⟩
          conv => whnf
          refine ⟨.int .i64 (bSign (z - low)), (hcmp _).mono ?_, ?_⟩
          · rintro o S' ⟨rfl, rfl⟩; exact ⟨rfl, rfl⟩
          conv => whnf
          exact ⟨_, _, ⟨rfl, rfl⟩, by rw [St.upd_upd]; exact St.le_upd' (St.le_refl _) hb5 _, AV.leS_refl _ _ _⟩
    · rw [bigAV_far hl] at *
      refine triple_of_awp (hT G) hm Tryz.func98 rfl (by decide +kernel) rfl (by decide +kernel) (by show 2 ≤ _; decide +kernel) rfl ?_
      conv => whnf
      refine (hp _).mono ?_
      rintro o S' ⟨rfl, rfl⟩
      conv => whnf
      intro b5 hb5
      conv => whnf
      refine ⟨_, _, St.upd_same _ _ _, ?_⟩
      conv => whnf
      refine ⟨[8, 9], (.free 0 (.free 1 (.free 2 (.free 3 (.free 4 (.free 5 (.free 6 (.free 7 (.free 8 (.free 9 (.free 10 (.free 11 (.free 12 (.free 13 .done)))))))))))))), _, by decide +kernel, ?_, fun _ _ h => ⟨_, .inl rfl, h⟩⟩
      cases f with
      | false =>
        conv => whnf
        exact ⟨_, _, ⟨rfl, rfl⟩, by rw [St.upd_upd]; exact St.le_upd' (St.le_refl _) hb5 _, AV.leS_refl _ _ _⟩
      | true =>
        conv => whnf
        cases hd : decide (low < 0) with
        | true =>
          rw [hd] at *
          conv => whnf
          exact ⟨_, _, ⟨rfl, rfl⟩, by rw [St.upd_upd]; exact St.le_upd' (St.le_refl _) hb5 _, AV.leS_refl _ _ _⟩
        | false =>
          rw [hd] at *
          conv => whnf
          refine ⟨_, _, St.upd_same _ _ _, ?_⟩
          conv => whnf
          refine ⟨farAV (decide (low < 0)) (limbs low.natAbs), (ho _).mono ?_, ?_⟩
          · rintro o S' ⟨rfl, rfl⟩; exact ⟨rfl, rfl⟩
          conv => whnf
          refine ⟨.int .i64 (bSign (z - low)), (hcmp _).mono ?_, ?_⟩
          · rintro o S' ⟨rfl, rfl⟩; exact ⟨rfl, rfl⟩
          conv => whnf
          exact ⟨_, _, ⟨rfl, rfl⟩, by rw [St.upd_upd]; exact St.le_upd' (St.le_refl _) hb5 _, AV.leS_refl _ _ _⟩
/-- proof.literal. -/
def litV (l : List UInt8) : Int :=
  let s1 := Lib.trimPrefix l [126]
  let s2 := Lib.trimPrefix s1 [120]
  let z := (parseI s2).getD 0
  if Lib.hasPrefix s1 [120] = false ∨ (parseI s2).isSome = false ∨ (smallV z).2 = false ∨ (smallV z).1 < 1 ∨ 1073741824 < (smallV z).1 then 0
  else if Lib.hasPrefix l [126] then -(smallV z).1 else (smallV z).1
theorem cutPrefix_list (l p : List UInt8) (S : St) : Triple P (C G) 110 [.str ⟨l.toArray⟩, .str ⟨p.toArray⟩] S fun o S' =>
    o = .ret (.tu [.str ⟨(Lib.trimPrefix l p).toArray⟩, .bool (Lib.hasPrefix l p)]) ∧ S' = S := by
  have h := CutPrefix_ok (G := G) ⟨l.toArray⟩ ⟨p.toArray⟩ S
  simpa only [List.toList_toArray] using h
theorem parse_list (l : List UInt8) (hl : l.length ≤ 1000000000) (S : St) : Triple P (C G) 107 [.str ⟨l.toArray⟩] S fun o S' =>
    o = .ret (.tu [bigAV ((parseI l).getD 0), .int .i64 (if (parseI l).isSome then 0 else 10)]) ∧ S' = S := by
  have h := Parse_ok (G := G) ⟨l.toArray⟩ (by show Array.size _ ≤ _; simpa using hl) S
  simpa only [List.toList_toArray] using h
theorem literal_list (hG : GS G) (l : List UInt8) (hs : l.length ≤ 9000000) (S : St) : Triple P (C G) 99 [.str ⟨l.toArray⟩] S fun o S' => o = .ret (.int .i64 (litV l)) ∧ S' = S := by
  have h1 := trimPrefix_len l [126]
  have h2 := trimPrefix_len (Lib.trimPrefix l [126]) [120]
  have hp := fun S => parse_list (G := G) (Lib.trimPrefix (Lib.trimPrefix l [126]) [120]) (by omega) S
  have hsm := fun S => Small_ok hG ((parseI (Lib.trimPrefix (Lib.trimPrefix l [126]) [120])).getD 0) S
  have c1 := fun S => cutPrefix_list (G := G) l [126] S
  have c2 := fun S => cutPrefix_list (G := G) (Lib.trimPrefix l [126]) [120] S
  unfold litV
  simp only []
  generalize hneg : Lib.hasPrefix l [126] = neg at *
  generalize hokx : Lib.hasPrefix (Lib.trimPrefix l [126]) [120] = okx at *
  generalize hs1 : Lib.trimPrefix l [126] = s1 at *
  generalize hs2 : Lib.trimPrefix s1 [120] = s2 at *
  generalize (parseI s2).isSome = f at *
  generalize (parseI s2).getD 0 = z at *
  generalize (smallV z).1 = v at *
  generalize (smallV z).2 = sm at *
  by_cases hz : near z
  · rw [bigAV_near hz] at *
    refine triple_of_awp (hT G) hm Tryz.func99 rfl (by decide +kernel) rfl (by decide +kernel) (by show 1 ≤ _; decide +kernel) rfl ?_
    refine awp_seq2 fun K hK hQ => ?_
    conv => whnf
    refine hK _ _ ?_
    clear hK hQ K
    refine awp_seq2 fun K hK hQ => ?_
    conv => whnf
    refine (c1 _).mono ?_
    rintro o S' ⟨rfl, rfl⟩
    conv => whnf
    refine hK _ _ ?_
    clear hK hQ K
    refine awp_seq2 fun K hK hQ => ?_
    conv => whnf
    refine (c2 _).mono ?_
    rintro o S' ⟨rfl, rfl⟩
    conv => whnf
    refine hK _ _ ?_
    clear hK hQ K
    refine awp_seq2 fun K hK hQ => ?_
    conv => whnf
    refine (hp _).mono ?_
    rintro o S' ⟨rfl, rfl⟩
    conv => whnf
    intro b6 hb6
    conv => whnf
    refine ⟨_, _, St.upd_same _ _ _, ?_⟩
    conv => whnf
    refine hK _ _ ?_
    clear hK hQ K
    refine awp_seq2 fun K hK hQ => ?_
    conv => whnf
    refine ⟨_, _, St.upd_same _ _ _, ?_⟩
    conv => whnf
    refine (hsm _).mono ?_
    rintro o S' ⟨rfl, rfl⟩
    conv => whnf
    refine hK _ _ ?_
    clear hK hQ K
    have hle : St.le S' ((S'.upd b6 (.obj 168 [.int .i64 0, .bool false, .nils])).upd b6 (.obj 168 [.int .i64 z, .bool false, .nils])) := by rw [St.upd_upd]; exact St.le_upd' (St.le_refl _) hb6 _
    cases okx with
    | false => conv => whnf
               exact ⟨_, _, ⟨by rw [if_pos (.inl rfl)], rfl⟩, hle, AV.leS_refl _ _ _⟩
    | true =>
      cases f with
      | false => conv => whnf
                 exact ⟨_, _, ⟨by rw [if_pos (.inr (.inl rfl))], rfl⟩, hle, AV.leS_refl _ _ _⟩
      | true =>
        cases sm with
        | false => conv => whnf
                   exact ⟨_, _, ⟨by rw [if_pos (.inr (.inr (.inl rfl)))], rfl⟩, hle, AV.leS_refl _ _ _⟩
        | true =>
          conv => whnf
          refine split_of (fun h1 => ?_) (fun h1 => ?_)
          · conv => whnf
            have h1 := of_decide_eq_true h1
            exact ⟨_, _, ⟨by rw [if_pos (.inr (.inr (.inr (.inl h1))))], rfl⟩, hle, AV.leS_refl _ _ _⟩
          · have h1 := of_decide_eq_false h1
            conv => whnf
            refine split_of (fun h2 => ?_) (fun h2 => ?_)
            · have h2 := of_decide_eq_true h2
              conv => whnf
              exact ⟨_, _, ⟨by rw [if_pos (.inr (.inr (.inr (.inr h2))))], rfl⟩, hle, AV.leS_refl _ _ _⟩
            · have h2 := of_decide_eq_false h2
              have hn : ¬ (true = false ∨ true = false ∨ true = false ∨ v < 1 ∨ 1073741824 < v) := by simp; omega
              cases neg with
              | true => conv => whnf
                        exact ⟨_, _, ⟨by rw [if_neg hn, if_pos rfl, wrap_i64 (by omega) (by omega)]; simp, rfl⟩, hle, AV.leS_refl _ _ _⟩
              | false => conv => whnf
                         exact ⟨_, _, ⟨by rw [if_neg hn, if_neg (by simp)], rfl⟩, hle, AV.leS_refl _ _ _⟩
  · rw [bigAV_far hz] at *
    refine triple_of_awp (hT G) hm Tryz.func99 rfl (by decide +kernel) rfl (by decide +kernel) (by show 1 ≤ _; decide +kernel) rfl ?_
    refine awp_seq2 fun K hK hQ => ?_
    conv => whnf
    refine hK _ _ ?_
    clear hK hQ K
    refine awp_seq2 fun K hK hQ => ?_
    conv => whnf
    refine (c1 _).mono ?_
    rintro o S' ⟨rfl, rfl⟩
    conv => whnf
    refine hK _ _ ?_
    clear hK hQ K
    refine awp_seq2 fun K hK hQ => ?_
    conv => whnf
    refine (c2 _).mono ?_
    rintro o S' ⟨rfl, rfl⟩
    conv => whnf
    refine hK _ _ ?_
    clear hK hQ K
    refine awp_seq2 fun K hK hQ => ?_
    conv => whnf
    refine (hp _).mono ?_
    rintro o S' ⟨rfl, rfl⟩
    conv => whnf
    intro b6 hb6
    conv => whnf
    refine ⟨_, _, St.upd_same _ _ _, ?_⟩
    conv => whnf
    refine hK _ _ ?_
    clear hK hQ K
    refine awp_seq2 fun K hK hQ => ?_
    conv => whnf
    refine ⟨_, _, St.upd_same _ _ _, ?_⟩
    conv => whnf
    refine (hsm _).mono ?_
    rintro o S' ⟨rfl, rfl⟩
    conv => whnf
    refine hK _ _ ?_
    clear hK hQ K
    have hle : St.le S' ((S'.upd b6 (.obj 168 [.int .i64 0, .bool false, .nils])).upd b6 (.obj 168 [.int .i64 0, .bool (decide (z < 0)), .sl .any 1 (rowsU (limbs z.natAbs))])) := by rw [St.upd_upd]; exact St.le_upd' (St.le_refl _) hb6 _
    cases okx with
    | false => conv => whnf
               exact ⟨_, _, ⟨by rw [if_pos (.inl rfl)], rfl⟩, hle, AV.leS_refl _ _ _⟩
    | true =>
      cases f with
      | false => conv => whnf
                 exact ⟨_, _, ⟨by rw [if_pos (.inr (.inl rfl))], rfl⟩, hle, AV.leS_refl _ _ _⟩
      | true =>
        cases sm with
        | false => conv => whnf
                   exact ⟨_, _, ⟨by rw [if_pos (.inr (.inr (.inl rfl)))], rfl⟩, hle, AV.leS_refl _ _ _⟩
        | true =>
          conv => whnf
          refine split_of (fun h1 => ?_) (fun h1 => ?_)
          · conv => whnf
            have h1 := of_decide_eq_true h1
            exact ⟨_, _, ⟨by rw [if_pos (.inr (.inr (.inr (.inl h1))))], rfl⟩, hle, AV.leS_refl _ _ _⟩
          · have h1 := of_decide_eq_false h1
            conv => whnf
            refine split_of (fun h2 => ?_) (fun h2 => ?_)
            · have h2 := of_decide_eq_true h2
              conv => whnf
              exact ⟨_, _, ⟨by rw [if_pos (.inr (.inr (.inr (.inr h2))))], rfl⟩, hle, AV.leS_refl _ _ _⟩
            · have h2 := of_decide_eq_false h2
              have hn : ¬ (true = false ∨ true = false ∨ true = false ∨ v < 1 ∨ 1073741824 < v) := by simp; omega
              cases neg with
              | true => conv => whnf
                        exact ⟨_, _, ⟨by rw [if_neg hn, if_pos rfl, wrap_i64 (by omega) (by omega)]; simp, rfl⟩, hle, AV.leS_refl _ _ _⟩
              | false => conv => whnf
                         exact ⟨_, _, ⟨by rw [if_neg hn, if_neg (by simp)], rfl⟩, hle, AV.leS_refl _ _ _⟩
theorem literal_ok (hG : GS G) (s : ByteArray) (hs : s.size ≤ 9000000) (S : St) : Triple P (C G) 99 [.str s] S fun o S' => o = .ret (.int .i64 (litV s.data.toList)) ∧ S' = S := by
  have hsl : s.data.toList.length = s.size := by rw [Array.length_toList]; rfl
  have h := literal_list hG s.data.toList (by omega) S
  rwa [Array.toArray_toList] at h
end Go.Proofs.YtdlgedpmbeafdaaGreatDoor.Aw

set_option maxRecDepth 100000
set_option linter.unusedVariables false
set_option linter.unusedSimpArgs false
namespace Go.Proofs.YtdlgedpmbeafdaaGreatDoor.Aw
open Go Go.RowKit
variable {G : Nat → Option (List AV)}

def blankR (x : Nat) : Bool := decide (x = 32) || decide (x = 9)
theorem words1_ok (x : Nat) (hx : x ≤ 1114111) : TripleE P (C G) 61 [.int .i32 (x : Int)] St.emp fun o S' => o = .ret (.bool (blankR x)) ∧ S' = St.emp := by
  refine tripleE_of_awp (hT G) hm Tryz.func61 rfl (by decide +kernel) rfl (by decide +kernel) (by show 1 ≤ _; decide +kernel) rfl ?_
  conv => whnf
  refine split_of (fun h => ?_) (fun h => ?_)
  · have h : x = 32 := by have := eq_of_beq h; omega
    conv => whnf
    exact ⟨_, _, ⟨rfl, rfl⟩, St.le_refl _, by simp only [blankR, h, decide_true, Bool.true_or]; exact AV.leS_refl _ _ _⟩
  · have h : ¬ x = 32 := by intro e; subst e; simp at h
    conv => whnf
    refine ⟨_, _, ⟨rfl, rfl⟩, St.le_refl _, ?_⟩
    have e : ((x : Int) == 9) = blankR x := by
      by_cases h2 : x = 9
      · subst h2; rfl
      · simp only [blankR, h, h2, decide_false, Bool.or_self]
        exact beq_false_of_ne (by omega)
    rw [e]; exact AV.leS_refl _ _ _
theorem spans_len (p : Nat → Bool) (s : ByteArray) : ∀ (f pos : Nat) (st : Option Nat) (acc : List (Nat × Nat)), (Lib.spansFromP p s f pos st acc).1.length ≤ acc.length + f
  | 0, _, _, acc => by simp [Lib.spansFromP]
  | f + 1, pos, st, acc => by
    unfold Lib.spansFromP
    split
    · split
      · cases st with
        | none => exact Nat.le_trans (spans_len p s f _ _ _) (by omega)
        | some a => exact Nat.le_trans (spans_len p s f _ _ _) (by simp; omega)
      · cases st with
        | none => exact Nat.le_trans (spans_len p s f _ _ _) (by omega)
        | some a => exact Nat.le_trans (spans_len p s f _ _ _) (by omega)
    · show acc.length ≤ _; omega
/-- proof.words. -/
def wordsL (s : ByteArray) : List ByteArray := Lib.goFieldsP blankR s
theorem wordsL_len (s : ByteArray) : (wordsL s).length ≤ s.size + 1 := by
  unfold wordsL Lib.goFieldsP Lib.spansOfP
  rw [List.length_map]
  have := spans_len blankR s s.size 0 none []
  generalize Lib.spansFromP blankR s s.size 0 none [] = r at *
  obtain ⟨acc, st⟩ := r
  unfold Lib.closeSpans
  cases st <;> simp at * <;> omega
theorem wordsL_size (s : ByteArray) : ∀ x ∈ wordsL s, x.size ≤ s.size := by
  intro x hx
  unfold wordsL Lib.goFieldsP at hx
  obtain ⟨y, _, rfl⟩ := List.mem_map.1 hx
  rw [ByteArray.size_extract]; omega
theorem words_ok (s : ByteArray) (hs : s.size ≤ 4294967296) (S : St) : Triple P (C G) 32 [.str s] S fun o S' => o = .ret (.sl .full 1 (rowsS (wordsL s))) ∧ S' = S := by
  have hf : Triple P (C G) 60 [.str s, .fn (.func 61) [] []] S fun o S' => o = .ret (.sl .full 1 (rowsS (wordsL s))) ∧ S' = S := by
    refine Triple.of_calls (x := .sl .full 1 (rowsS (wordsL s))) Tryz.func60 rfl (by decide +kernel) (fun w vs hg hr => ?_) ⟨rfl, rfl⟩
    obtain ⟨u, v, hv, r1, r2⟩ := RelL.two hr
    simp only [Rel] at r1 r2
    obtain ⟨a1, a2, rfl, q1, q2⟩ := r2
    simp only [RelL] at q1 q2
    have e1 : a1 = #[] := by simpa using q1
    have e2 : a2 = #[] := by simpa using q2
    subst r1 e1 e2
    rw [show vs = #[.string s, .func (.func 61) #[] #[]] from arr_of_list hv]
    refine (Tryz.strings_FieldsFunc_grows 61 #[] (fun vs w => (words1_ok (G := G) 0 (by omega)).enter vs w) blankR s w hs (predGrows hg words1_ok)).mono fun e w' he => ?_
    obtain ⟨A, rfl, hA, hown, hb⟩ := he
    refine ⟨_, rfl, ?_, hb⟩
    obtain ⟨hxl, hz | ⟨g, cap, cur, hv', hbg, hg', hnc, hcm, hcs, htk⟩⟩ := hown
    · exact absurd hz.1 (by simp)
    · simp only [Value.slice.injEq, Option.some.injEq, Addr.mk.injEq] at hv'
      obtain ⟨⟨rfl, _⟩, _, rfl⟩ := hv'
      simp only [Rel]
      refine .inr ⟨A, 0, (wordsL s).length, by rw [rowsS_len]; rfl, by rw [rowsS_len]; exact Nat.le_refl _, hcm, by rw [rowsS_len]; rfl, ?_⟩
      refine RelRows.of_cells (rowsS_one _) (RelL_strs _ _ _) (fun i v hv => ?_) (fun u hu => ?_) (fun i hi => ?_)
      · have := cell_of_row _ _ i _ _ (0, 0) hg'
        rw [Nat.zero_add]
        refine this.trans ?_
        have h2 : cur.toList.take ((wordsL s).length * 1) = (wordsL s).map Value.string := htk
        rw [← h2] at hv
        rw [List.getElem?_take] at hv
        split at hv
        · simpa using hv
        · cases hv
      · obtain ⟨x, _, rfl⟩ := List.mem_map.1 hu; rfl
      · have hgS : S A = none := by
          cases e : S A with
          | none => rfl
          | some o => have := hg.1.lt e; omega
        simp only [rdOf, hgS]
  refine triple_of_awp (hT G) hm Tryz.func32 rfl (by decide +kernel) rfl (by decide +kernel) (by show 1 ≤ _; decide +kernel) rfl ?_
  conv => whnf
  refine hf.mono ?_
  rintro o S' ⟨rfl, rfl⟩
  conv => whnf
  exact ⟨_, _, ⟨rfl, rfl⟩, St.le_refl _, AV.leS_refl _ _ _⟩
end Go.Proofs.YtdlgedpmbeafdaaGreatDoor.Aw

set_option maxRecDepth 100000
set_option linter.unusedVariables false
set_option linter.unusedSimpArgs false
namespace Go.Proofs.YtdlgedpmbeafdaaGreatDoor.Aw
open Go Go.RowKit
variable {G : Nat → Option (List AV)}

/-- A step. -/
structure StepV where
  kind : Int
  num : ByteArray
  ops : List (Int × ByteArray × Int)
  pieces : List (ByteArray × Int)
  bound : ByteArray
  lits : List Int
  ids : List ByteArray
  n6 : Int
  s7 : ByteArray
  s8 : ByteArray
def rowsO (l : List (Int × ByteArray × Int)) : List (List AV) := l.map fun o => [.int .i64 o.1, .str o.2.1, .int .i64 o.2.2]
def rowsP (l : List (ByteArray × Int)) : List (List AV) := l.map fun o => [.str o.1, .int .i64 o.2]
def rowsI (l : List Int) : List (List AV) := l.map fun o => [.int .i64 o]
@[simp] theorem rowsO_len (l) : (rowsO l).length = l.length := by simp [rowsO]
@[simp] theorem rowsP_len (l) : (rowsP l).length = l.length := by simp [rowsP]
@[simp] theorem rowsI_len (l) : (rowsI l).length = l.length := by simp [rowsI]
structure Tips where
  b3 : Nat
  b4 : Nat
  b6 : Nat
  b7 : Nat
def stepC (v : StepV) (t : Tips) : List AV := [.int .i64 v.kind, .str v.num, .sl (.acc t.b3) 3 (rowsO v.ops), .sl (.acc t.b4) 2 (rowsP v.pieces), .str v.bound, .sl (.acc t.b6) 1 (rowsI v.lits), .sl (.acc t.b7) 1 (rowsS v.ids), .int .i64 v.n6, .str v.s7, .str v.s8]
/-- A list that grows: its block. -/
def TipOk (S₀ S : St) (b : Nat) (e : TypeId) (k n : Nat) : Prop := 0 < n → S b = some (.tip e k n) ∧ S₀ b = none
structure RdrAt (S₀ S : St) (rb : Nat) (ws : List ByteArray) (v : StepV) (t : Tips) : Prop where
  le : St.le S₀ S
  new : S₀ rb = none
  at_ : S rb = some (rdr ws (stepC v t))
  t3 : TipOk S₀ S t.b3 59 3 v.ops.length
  t4 : TipOk S₀ S t.b4 57 2 v.pieces.length
  t6 : TipOk S₀ S t.b6 3 1 v.lits.length
  t7 : TipOk S₀ S t.b7 9 1 v.ids.length
def Rdr (S₀ S : St) (rb : Nat) (ws : List ByteArray) (v : StepV) : Prop := ∃ t, RdrAt S₀ S rb ws v t
theorem TipOk.keep {S₀ S S' : St} {b : Nat} {e : TypeId} {k n : Nat} (h : TipOk S₀ S b e k n) (hk : ∀ o, S b = some o → S' b = some o) : TipOk S₀ S' b e k n := fun hn => ⟨hk _ (h hn).1, (h hn).2⟩
theorem TipOk.upd {S₀ S : St} {b rb : Nat} {e : TypeId} {k n : Nat} (h : TipOk S₀ S b e k n) {e' : TypeId} {cs : List AV} (hr : S rb = some (.obj e' cs)) (o : Own) : TipOk S₀ (S.upd rb o) b e k n := fun hn => by
  obtain ⟨h1, h2⟩ := h hn
  have : b ≠ rb := by rintro rfl; rw [h1] at hr; cases hr
  exact ⟨by rw [St.upd_ne _ _ _ _ this]; exact h1, h2⟩
/-- The reader's cells are written; its lists stay. -/
theorem RdrAt.set {S₀ S : St} {rb : Nat} {ws ws' : List ByteArray} {v v' : StepV} {t : Tips} (h : RdrAt S₀ S rb ws v t) (e1 : v'.ops = v.ops) (e2 : v'.pieces = v.pieces) (e3 : v'.lits = v.lits) (e4 : v'.ids = v.ids) : RdrAt S₀ (S.upd rb (rdr ws' (stepC v' t))) rb ws' v' t :=
  ⟨St.le_upd h.le h.new _, h.new, St.upd_same _ _ _, by rw [e1]; exact h.t3.upd h.at_ _, by rw [e2]; exact h.t4.upd h.at_ _, by rw [e3]; exact h.t6.upd h.at_ _, by rw [e4]; exact h.t7.upd h.at_ _⟩
theorem RdrAt.words {S₀ S : St} {rb : Nat} {ws ws' : List ByteArray} {v : StepV} {t : Tips} (h : RdrAt S₀ S rb ws v t) : RdrAt S₀ (S.upd rb (rdr ws' (stepC v t))) rb ws' v t := h.set rfl rfl rfl rfl
/-- A block is laid beside it. -/
theorem RdrAt.more {S₀ S : St} {rb : Nat} {ws : List ByteArray} {v : StepV} {t : Tips} (h : RdrAt S₀ S rb ws v t) {b : Nat} (hb : S b = none) (o : Own) : RdrAt S₀ (S.upd b o) rb ws v t := by
  have hk : ∀ x p, S x = some p → (S.upd b o) x = some p := fun x p hx => by rw [St.upd_ne _ _ _ _ (St.ne_of hb hx)]; exact hx
  exact ⟨fun x p hx => hk _ _ (h.le x p hx), h.new, hk _ _ h.at_, h.t3.keep (hk _), h.t4.keep (hk _), h.t6.keep (hk _), h.t7.keep (hk _)⟩
/-- AccStep leaves the blocks of other element types. -/
theorem AccStep.other {S S' : St} {b b' : Nat} {e : TypeId} {k n m : Nat} (ht : 0 < n → S b = some (.tip e k n)) (ha : AccStep S b e k n m b' S') {x : Nat} {o : Own} (hx : S x = some o) (ho : ∀ n', o ≠ .tip e k n') : S' x = some o := by
  rcases ha with ⟨e1, rfl, rfl⟩ | ⟨e1, S₁, c1, c2, c3, rfl⟩
  · exact hx
  · have : S₁ x = some o := by
      by_cases hn : n = 0
      · rw [c1 hn]; exact hx
      · have hne : x ≠ b := by
          rintro rfl
          rw [ht (by omega)] at hx
          cases hx
          exact ho n rfl
        rw [c2 (by omega), St.del_ne _ _ _ hne]; exact hx
    rw [St.upd_ne _ _ _ _ (fun e => by rw [e, c3] at this; cases this)]; exact this
theorem AccStep.tipOk {S₀ S S' : St} {b b' : Nat} {e : TypeId} {k n m : Nat} (h : TipOk S₀ S b e k n) (hle : St.le S₀ S) (ha : AccStep S b e k n m b' S') : TipOk S₀ S' b' e k (n + m) ∧ St.le S₀ S' := by
  rcases ha with ⟨rfl, rfl, rfl⟩ | ⟨e1, S₁, c1, c2, c3, rfl⟩
  · exact ⟨h, hle⟩
  · have h1 : St.le S₀ S₁ := by
      by_cases hn : n = 0
      · rw [c1 hn]; exact hle
      · rw [c2 (by omega)]; exact St.le_del' hle (h (by omega)).2
    have h0 : S₀ b' = none := by
      cases e : S₀ b' with
      | none => rfl
      | some o => rw [h1 _ _ e] at c3; cases c3
    exact ⟨fun _ => ⟨St.upd_same _ _ _, h0⟩, St.le_upd h1 h0 _⟩
theorem TipOk.keep' {S₀ S S' : St} {b b1 b2 : Nat} {e e' : TypeId} {k n k' n' m : Nat} (h : TipOk S₀ S b e k n) (ht : 0 < n' → S b1 = some (.tip e' k' n')) (ha : AccStep S b1 e' k' n' m b2 S') (hne : e ≠ e') : TipOk S₀ S' b e k n := fun hn =>
  ⟨AccStep.other ht ha (h hn).1 (by intro x he; cases he; exact hne rfl), (h hn).2⟩
theorem RdrAt.push7 {S₀ S S' : St} {rb b' m : Nat} {ws : List ByteArray} {v : StepV} {t : Tips} (h : RdrAt S₀ S rb ws v t) (ha : AccStep S t.b7 9 1 v.ids.length m b' S') {new : List ByteArray} (hm : new.length = m) :
    S' rb = some (rdr ws (stepC v t)) ∧ RdrAt S₀ (S'.upd rb (rdr ws (stepC { v with ids := v.ids ++ new } { t with b7 := b' }))) rb ws { v with ids := v.ids ++ new } { t with b7 := b' } := by
  have ht : 0 < v.ids.length → S t.b7 = some (.tip 9 1 v.ids.length) := fun hn => (h.t7 hn).1
  obtain ⟨k1, k2⟩ := AccStep.tipOk h.t7 h.le ha
  have hr := AccStep.other ht ha h.at_ (by intro n' e; unfold rdr at e; cases e)
  refine ⟨hr, St.le_upd k2 h.new _, h.new, St.upd_same _ _ _, TipOk.upd (h.t3.keep' ht ha ?_) hr _, TipOk.upd (h.t4.keep' ht ha ?_) hr _, TipOk.upd (h.t6.keep' ht ha ?_) hr _, TipOk.upd (by rw [List.length_append, hm]; exact k1) hr _⟩
  all_goals decide
theorem RdrAt.push3 {S₀ S S' : St} {rb b' m : Nat} {ws : List ByteArray} {v : StepV} {t : Tips} (h : RdrAt S₀ S rb ws v t) (ha : AccStep S t.b3 59 3 v.ops.length m b' S') {new : List (Int × ByteArray × Int)} (hm : new.length = m) :
    S' rb = some (rdr ws (stepC v t)) ∧ RdrAt S₀ (S'.upd rb (rdr ws (stepC { v with ops := v.ops ++ new } { t with b3 := b' }))) rb ws { v with ops := v.ops ++ new } { t with b3 := b' } := by
  have ht : 0 < v.ops.length → S t.b3 = some (.tip 59 3 v.ops.length) := fun hn => (h.t3 hn).1
  obtain ⟨k1, k2⟩ := AccStep.tipOk h.t3 h.le ha
  have hr := AccStep.other ht ha h.at_ (by intro n' e; unfold rdr at e; cases e)
  refine ⟨hr, St.le_upd k2 h.new _, h.new, St.upd_same _ _ _, TipOk.upd (by rw [List.length_append, hm]; exact k1) hr _, TipOk.upd (h.t4.keep' ht ha ?_) hr _, TipOk.upd (h.t6.keep' ht ha ?_) hr _, TipOk.upd (h.t7.keep' ht ha ?_) hr _⟩
  all_goals decide
theorem RdrAt.push4 {S₀ S S' : St} {rb b' m : Nat} {ws : List ByteArray} {v : StepV} {t : Tips} (h : RdrAt S₀ S rb ws v t) (ha : AccStep S t.b4 57 2 v.pieces.length m b' S') {new : List (ByteArray × Int)} (hm : new.length = m) :
    S' rb = some (rdr ws (stepC v t)) ∧ RdrAt S₀ (S'.upd rb (rdr ws (stepC { v with pieces := v.pieces ++ new } { t with b4 := b' }))) rb ws { v with pieces := v.pieces ++ new } { t with b4 := b' } := by
  have ht : 0 < v.pieces.length → S t.b4 = some (.tip 57 2 v.pieces.length) := fun hn => (h.t4 hn).1
  obtain ⟨k1, k2⟩ := AccStep.tipOk h.t4 h.le ha
  have hr := AccStep.other ht ha h.at_ (by intro n' e; unfold rdr at e; cases e)
  refine ⟨hr, St.le_upd k2 h.new _, h.new, St.upd_same _ _ _, TipOk.upd (h.t3.keep' ht ha ?_) hr _, TipOk.upd (by rw [List.length_append, hm]; exact k1) hr _, TipOk.upd (h.t6.keep' ht ha ?_) hr _, TipOk.upd (h.t7.keep' ht ha ?_) hr _⟩
  all_goals decide
theorem RdrAt.push6 {S₀ S S' : St} {rb b' m : Nat} {ws : List ByteArray} {v : StepV} {t : Tips} (h : RdrAt S₀ S rb ws v t) (ha : AccStep S t.b6 3 1 v.lits.length m b' S') {new : List Int} (hm : new.length = m) :
    S' rb = some (rdr ws (stepC v t)) ∧ RdrAt S₀ (S'.upd rb (rdr ws (stepC { v with lits := v.lits ++ new } { t with b6 := b' }))) rb ws { v with lits := v.lits ++ new } { t with b6 := b' } := by
  have ht : 0 < v.lits.length → S t.b6 = some (.tip 3 1 v.lits.length) := fun hn => (h.t6 hn).1
  obtain ⟨k1, k2⟩ := AccStep.tipOk h.t6 h.le ha
  have hr := AccStep.other ht ha h.at_ (by intro n' e; unfold rdr at e; cases e)
  refine ⟨hr, St.le_upd k2 h.new _, h.new, St.upd_same _ _ _, TipOk.upd (h.t3.keep' ht ha ?_) hr _, TipOk.upd (h.t4.keep' ht ha ?_) hr _, TipOk.upd (by rw [List.length_append, hm]; exact k1) hr _, TipOk.upd (h.t7.keep' ht ha ?_) hr _⟩
  all_goals decide
/-! ### number, lit -/
def numG (low : Int) : List ByteArray → ByteArray × Int × List ByteArray
  | [] => (⟨#[]⟩, 82, [])
  | w :: l => if isNumV w.data.toList low then (w, 0, l) else (⟨#[]⟩, 81, l)
theorem number_ok (rb : Nat) (l : List ByteArray) (cs : List AV) (low : Int) (h0 : -9223372036854775808 ≤ low) (h1 : low ≤ 9223372036854775807) (S : St) (hS : S rb = some (rdr l cs)) (hw : ∀ w ∈ l, w.size ≤ 9000000) :
    Triple P (C G) 85 [.ref rb 0, .int .i64 low] S fun o S' => o = .ret (.tu [.str (numG low l).1, errAV (numG low l).2.1]) ∧ S' = S.upd rb (rdr (numG low l).2.2 cs) := by
  refine triple_of_awp (hT G) hm Tryz.func85 rfl (by decide +kernel) rfl (by decide +kernel) (by show 2 ≤ _; decide +kernel) rfl ?_
  conv => whnf
  refine (rtake_ok rb l cs S hS).mono ?_
  cases l with
  | nil =>
    rintro o S' ⟨rfl, rfl⟩
    conv => whnf
    refine ⟨_, _, ⟨rfl, rfl⟩, ?_, AV.leS_refl _ _ _⟩
    rw [show rdr (numG low []).2.2 cs = rdr [] cs from rfl, St.upd_id hS]; exact St.le_refl _
  | cons w l =>
    rintro o S' ⟨rfl, rfl⟩
    conv => whnf
    refine (isNumber_ok w (hw w (by simp)) low h0 h1 _).mono ?_
    rintro o S' ⟨rfl, rfl⟩
    simp only [numG]
    cases isNumV w.data.toList low with
    | false =>
      conv => whnf
      refine (fail_ok 81 _).mono ?_
      rintro o S' ⟨rfl, rfl⟩
      conv => whnf
      exact ⟨_, _, ⟨rfl, rfl⟩, St.le_refl _, AV.leS_refl _ _ _⟩
    | true =>
      conv => whnf
      exact ⟨_, _, ⟨rfl, rfl⟩, St.le_refl _, AV.leS_refl _ _ _⟩
def rlitG : List ByteArray → Int × Int × List ByteArray
  | [] => (0, 82, [])
  | w :: l => if litV w.data.toList = 0 then (0, 81, l) else (litV w.data.toList, 0, l)
theorem rlit_ok (hG : GS G) (rb : Nat) (l : List ByteArray) (cs : List AV) (S : St) (hS : S rb = some (rdr l cs)) (hw : ∀ w ∈ l, w.size ≤ 9000000) :
    Triple P (C G) 102 [.ref rb 0] S fun o S' => o = .ret (.tu [.int .i64 (rlitG l).1, errAV (rlitG l).2.1]) ∧ S' = S.upd rb (rdr (rlitG l).2.2 cs) := by
  refine triple_of_awp (hT G) hm Tryz.func102 rfl (by decide +kernel) rfl (by decide +kernel) (by show 1 ≤ _; decide +kernel) rfl ?_
  conv => whnf
  refine (rtake_ok rb l cs S hS).mono ?_
  cases l with
  | nil =>
    rintro o S' ⟨rfl, rfl⟩
    conv => whnf
    refine ⟨_, _, ⟨rfl, rfl⟩, ?_, AV.leS_refl _ _ _⟩
    rw [show rdr (rlitG []).2.2 cs = rdr [] cs from rfl, St.upd_id hS]; exact St.le_refl _
  | cons w l =>
    rintro o S' ⟨rfl, rfl⟩
    conv => whnf
    refine (literal_ok hG w (hw w (by simp)) _).mono ?_
    rintro o S' ⟨rfl, rfl⟩
    simp only [rlitG]
    generalize litV w.data.toList = z
    conv => whnf
    refine split_of (fun h => ?_) (fun h => ?_)
    · have h : z = 0 := by simpa using h
      rw [if_pos h]
      conv => whnf
      refine (fail_ok 81 _).mono ?_
      rintro o S' ⟨rfl, rfl⟩
      conv => whnf
      exact ⟨_, _, ⟨rfl, rfl⟩, St.le_refl _, AV.leS_refl _ _ _⟩
    · have h : ¬ z = 0 := by simpa using h
      rw [if_neg h]
      conv => whnf
      exact ⟨_, _, ⟨rfl, rfl⟩, St.le_refl _, AV.leS_refl _ _ _⟩
end Go.Proofs.YtdlgedpmbeafdaaGreatDoor.Aw

set_option maxRecDepth 100000
set_option linter.unusedVariables false
set_option linter.unusedSimpArgs false
namespace Go.Proofs.YtdlgedpmbeafdaaGreatDoor.Aw
open Go Go.RowKit
variable {G : Nat → Option (List AV)}

def idsG : List ByteArray → List ByteArray → List ByteArray × Int × List ByteArray
  | [], ids => (ids, 0, [])
  | w :: l, ids => if isNumV w.data.toList 1 then idsG l (ids ++ [w]) else (ids, 81, l)
theorem rowsS_snoc (l : List ByteArray) (x : ByteArray) : rowsS l ++ [[AV.str x]] = rowsS (l ++ [x]) := by simp [rowsS]
theorem rowsI_snoc (l : List Int) (x : Int) : rowsI l ++ [[AV.int .i64 x]] = rowsI (l ++ [x]) := by simp [rowsI]
theorem ids_ok {S₀ S : St} {rb : Nat} {ws : List ByteArray} {v : StepV} (h : Rdr S₀ S rb ws v) (hw : ∀ w ∈ ws, w.size ≤ 9000000) (hn : ws.length + v.ids.length ≤ 10000000) :
    Triple P (C G) 88 [.ref rb 0] S fun o S' => o = .ret (errAV (idsG ws v.ids).2.1) ∧ Rdr S₀ S' rb (idsG ws v.ids).2.2 { v with ids := (idsG ws v.ids).1 } := by
  refine triple_of_awp (hT G) hm Tryz.func88 rfl (by decide +kernel) rfl (by decide +kernel) (by show 1 ≤ _; decide +kernel) rfl ?_
  conv => whnf
  refine ⟨⟨List ByteArray × List ByteArray, fun _ => [(0, .ref rb 0)],
    fun x S' => Rdr S₀ S' rb x.1 { v with ids := x.2 } ∧ idsG x.1 x.2 = idsG ws v.ids ∧ x.1.length + x.2.length ≤ 10000000 ∧ ∀ w ∈ x.1, w.size ≤ 9000000, fun x => x.1.length⟩,
    ⟨(ws, v.ids), ⟨rfl, trivial⟩, ⟨_, St.leW_refl _, h, rfl, hn, hw⟩⟩, ?_⟩
  rintro ⟨l, ids⟩ S₁ ⟨⟨t, hat⟩, h2, h3, h4⟩
  dsimp only at hat h2 h3 h4
  rw [← h2]
  have hcs := hat.at_
  conv => whnf
  refine ⟨_, _, hcs, ?_⟩
  conv => whnf
  intro _
  cases l with
  | nil =>
    conv => whnf
    exact ⟨_, _, ⟨rfl, t, hat⟩, St.le_refl _, AV.leS_refl _ _ _⟩
  | cons w l =>
    refine split_of (fun hlt => ?_) (fun hlt => by simp [rowsS] at hlt)
    conv => whnf
    refine (number_ok rb (w :: l) _ 1 (by decide) (by decide) S₁ hcs h4).mono ?_
    rintro o S' ⟨rfl, rfl⟩
    simp only [numG, idsG] at h2 ⊢
    cases hnum : isNumV w.data.toList 1 with
    | false =>
      rw [hnum] at h2
      simp only [Bool.false_eq_true, if_false] at h2 ⊢
      conv => whnf
      exact ⟨_, _, ⟨rfl, t, hat.words⟩, St.le_refl _, AV.leS_refl _ _ _⟩
    | true =>
      rw [hnum] at h2
      simp only [if_true] at h2 ⊢
      have hat2 := hat.words (ws' := l)
      rw [show errAV 0 = .nili from rfl]
      have hcs2 := hat2.at_
      generalize S₁.upd rb (rdr l (stepC { v with ids := ids } t)) = S₂ at *
      conv => whnf
      refine ⟨_, _, hcs2, ?_⟩
      conv => whnf
      intro bb hbb
      have hat3 := hat2.more hbb (.tip 9 1 1)
      conv => whnf
      refine ⟨⟨fun hl => ?_, ?_⟩, fun S3 c1 c2 b' c3 => ?_⟩
      · have : 0 < ids.length := by cases ids with
          | nil => exact absurd rfl hl
          | cons _ _ => simp
        rw [rowsS_len]; exact (hat3.t7 this).1
      · show ((rowsS ids).length + 1) * 16 ≤ _
        rw [rowsS_len]; simp at h3; omega
      have ha : AccStep (S₂.upd bb (.tip 9 1 1)) t.b7 9 1 ids.length 1 b' (S3.upd b' (.tip 9 1 (ids.length + 1))) := .inr ⟨by simp, S3, fun e => c1 (by rw [List.eq_nil_of_length_eq_zero e]; rfl), fun e => c2 (by cases ids <;> simp_all [rowsS]), c3, rfl⟩
      obtain ⟨k1, k2⟩ := hat3.push7 ha (new := [w]) rfl
      rw [show rowsS ({ v with ids := ids } : StepV).ids ++ [[AV.str w]] = rowsS (ids ++ [w]) from rowsS_snoc ids w, show (rowsS ({ v with ids := ids } : StepV).ids).length = ids.length from rowsS_len ids]
      conv => whnf
      refine ⟨_, _, k1, ?_⟩
      conv => whnf
      refine ⟨(l, ids ++ [w]), ⟨rfl, trivial⟩, ⟨_, St.leW_refl _, ⟨_, k2⟩, ?_, by simp at h3 ⊢; omega, fun x hx => h4 x (by simp [hx])⟩, by show l.length < l.length + 1; omega⟩
      exact rfl
def litsG : List ByteArray → List Int → List Int × Int × List ByteArray
  | [], ls => (ls, 0, [])
  | w :: l, ls => if litV w.data.toList = 0 then (ls, 81, l) else litsG l (ls ++ [litV w.data.toList])
theorem lits_ok (hG : GS G) {S₀ S : St} {rb : Nat} {ws : List ByteArray} {v : StepV} (h : Rdr S₀ S rb ws v) (hw : ∀ w ∈ ws, w.size ≤ 9000000) (hn : ws.length + v.lits.length ≤ 10000000) :
    Triple P (C G) 89 [.ref rb 0] S fun o S' => o = .ret (errAV (litsG ws v.lits).2.1) ∧ Rdr S₀ S' rb (litsG ws v.lits).2.2 { v with lits := (litsG ws v.lits).1 } := by
  refine triple_of_awp (hT G) hm Tryz.func89 rfl (by decide +kernel) rfl (by decide +kernel) (by show 1 ≤ _; decide +kernel) rfl ?_
  conv => whnf
  refine ⟨⟨List ByteArray × List Int, fun _ => [(0, .ref rb 0)],
    fun x S' => Rdr S₀ S' rb x.1 { v with lits := x.2 } ∧ litsG x.1 x.2 = litsG ws v.lits ∧ x.1.length + x.2.length ≤ 10000000 ∧ ∀ w ∈ x.1, w.size ≤ 9000000, fun x => x.1.length⟩,
    ⟨(ws, v.lits), ⟨rfl, trivial⟩, ⟨_, St.leW_refl _, h, rfl, hn, hw⟩⟩, ?_⟩
  rintro ⟨l, ls⟩ S₁ ⟨⟨t, hat⟩, h2, h3, h4⟩
  dsimp only at hat h2 h3 h4
  rw [← h2]
  have hcs := hat.at_
  conv => whnf
  refine ⟨_, _, hcs, ?_⟩
  conv => whnf
  intro _
  cases l with
  | nil =>
    conv => whnf
    exact ⟨_, _, ⟨rfl, t, hat⟩, St.le_refl _, AV.leS_refl _ _ _⟩
  | cons w l =>
    refine split_of (fun hlt => ?_) (fun hlt => by simp [rowsS] at hlt)
    conv => whnf
    refine (rlit_ok hG rb (w :: l) _ S₁ hcs h4).mono ?_
    rintro o S' ⟨rfl, rfl⟩
    simp only [rlitG, litsG] at h2 ⊢
    generalize litV w.data.toList = z at *
    by_cases hz : z = 0
    · simp only [hz, if_true] at h2 ⊢
      conv => whnf
      exact ⟨_, _, ⟨rfl, t, hat.words⟩, St.le_refl _, AV.leS_refl _ _ _⟩
    · simp only [if_neg hz] at h2 ⊢
      have hat2 := hat.words (ws' := l)
      rw [show errAV 0 = .nili from rfl]
      have hcs2 := hat2.at_
      generalize S₁.upd rb (rdr l (stepC { v with lits := ls } t)) = S₂ at *
      conv => whnf
      refine ⟨_, _, hcs2, ?_⟩
      conv => whnf
      intro bb hbb
      have hat3 := hat2.more hbb (.tip 3 1 1)
      conv => whnf
      refine ⟨⟨fun hl => ?_, ?_⟩, fun S3 c1 c2 b' c3 => ?_⟩
      · have : 0 < ls.length := by cases ls with
          | nil => exact absurd rfl hl
          | cons _ _ => simp
        rw [rowsI_len]; exact (hat3.t6 this).1
      · show ((rowsI ls).length + 1) * 8 ≤ _
        rw [rowsI_len]; simp at h3; omega
      have ha : AccStep (S₂.upd bb (.tip 3 1 1)) t.b6 3 1 ls.length 1 b' (S3.upd b' (.tip 3 1 (ls.length + 1))) := .inr ⟨by simp, S3, fun e => c1 (by rw [List.eq_nil_of_length_eq_zero e]; rfl), fun e => c2 (by cases ls <;> simp_all [rowsI]), c3, rfl⟩
      obtain ⟨k1, k2⟩ := hat3.push6 ha (new := [z]) rfl
      rw [show rowsI ({ v with lits := ls } : StepV).lits ++ [[AV.int .i64 z]] = rowsI (ls ++ [z]) from rowsI_snoc ls z, show (rowsI ({ v with lits := ls } : StepV).lits).length = ls.length from rowsI_len ls]
      conv => whnf
      refine ⟨_, _, k1, ?_⟩
      conv => whnf
      refine ⟨(l, ls ++ [z]), ⟨rfl, trivial⟩, ⟨_, St.leW_refl _, ⟨_, k2⟩, ?_, by simp at h3 ⊢; omega, fun x hx => h4 x (by simp [hx])⟩, by show l.length < l.length + 1; omega⟩
      exact rfl
end Go.Proofs.YtdlgedpmbeafdaaGreatDoor.Aw

set_option maxRecDepth 100000
set_option linter.unusedVariables false
set_option linter.unusedSimpArgs false
namespace Go.Proofs.YtdlgedpmbeafdaaGreatDoor.Aw
open Go Go.RowKit
variable {G : Nat → Option (List AV)}

def geS : ByteArray := ⟨#[62, 61]⟩
def semiS : ByteArray := ⟨#[59]⟩
def pieceG : List ByteArray → List (ByteArray × Int) → List (ByteArray × Int) × Int × List ByteArray
  | [], p => (p, 82, [])
  | [w], p => if w = geS then (p, 0, [w]) else if isNumV w.data.toList (-1) then (p, 82, []) else (p, 81, [])
  | w :: x :: l, p => if w = geS then (p, 0, w :: x :: l) else if isNumV w.data.toList (-1) then (if litV x.data.toList = 0 then (p, 81, l) else pieceG l (p ++ [(w, litV x.data.toList)])) else (p, 81, x :: l)
/-- The bound, and the end of the row. -/
def boundG (l : List ByteArray) (v : StepV) : Int × List ByteArray × StepV :=
  if (numG (-1) l).2.1 = 0 then ((exactG (numG (-1) l).2.2 [semiS]).2, (exactG (numG (-1) l).2.2 [semiS]).1, { v with bound := (numG (-1) l).1 })
  else ((numG (-1) l).2.1, (numG (-1) l).2.2, { v with bound := (numG (-1) l).1 })
/-- What row leaves: the error's number, the words, the step. -/
def rowG (ws : List ByteArray) (v : StepV) : Int × List ByteArray × StepV :=
  if (pieceG ws v.pieces).2.1 = 0 then boundG (pieceG ws v.pieces).2.2.tail { v with pieces := (pieceG ws v.pieces).1 }
  else ((pieceG ws v.pieces).2.1, (pieceG ws v.pieces).2.2, { v with pieces := (pieceG ws v.pieces).1 })
theorem rowsP_snoc (l : List (ByteArray × Int)) (x : ByteArray × Int) : rowsP l ++ [[AV.str x.1, AV.int .i64 x.2]] = rowsP (l ++ [x]) := by simp [rowsP]
theorem row_ok (hG : GS G) {S₀ S : St} {rb : Nat} {ws : List ByteArray} {v : StepV} (h : Rdr S₀ S rb ws v) (hw : ∀ w ∈ ws, w.size ≤ 9000000) (hn : ws.length + v.pieces.length ≤ 10000000) :
    Triple P (C G) 87 [.ref rb 0] S fun o S' => o = .ret (errAV (rowG ws v).1) ∧ Rdr S₀ S' rb (rowG ws v).2.1 (rowG ws v).2.2 := by
  refine triple_of_awp (hT G) hm Tryz.func87 rfl (by decide +kernel) rfl (by decide +kernel) (by show 1 ≤ _; decide +kernel) rfl ?_
  refine awp_seq2 fun K hK hQ => ?_
  conv => whnf
  refine hK _ _ ?_
  clear hK hQ K
  refine awp_seq2 fun K hK hQ => ?_
  conv => whnf
  refine ⟨⟨List ByteArray × List (ByteArray × Int), fun _ => [(0, .ref rb 0)],
    fun x S' => Rdr S₀ S' rb x.1 { v with pieces := x.2 } ∧ pieceG x.1 x.2 = pieceG ws v.pieces ∧ x.1.length + x.2.length ≤ 10000000 ∧ ∀ w ∈ x.1, w.size ≤ 9000000, fun x => x.1.length⟩,
    ⟨(ws, v.pieces), ⟨rfl, trivial⟩, ⟨_, St.leW_refl _, h, rfl, hn, hw⟩⟩, ?_⟩
  rintro ⟨l, ps⟩ S₁ ⟨⟨t, hat⟩, h2, h3, h4⟩
  dsimp only at hat h2 h3 h4
  have hcs := hat.at_
  conv => whnf
  refine (rnext_ok rb l _ geS S₁ hcs).mono ?_
  rintro o T ⟨rfl, rfl⟩
  by_cases hge : l.head? = some geS
  · obtain ⟨l', rfl⟩ : ∃ l', l = geS :: l' := by
      cases l with
      | nil => cases hge
      | cons w l' => simp only [List.head?_cons, Option.some.injEq] at hge; exact ⟨l', by rw [hge]⟩
    rw [decide_eq_true hge]
    have hr : pieceG (geS :: l') ps = (ps, 0, geS :: l') := by cases l' <;> simp [pieceG]
    have hrow : rowG ws v = boundG l' { v with pieces := ps } := by
      unfold rowG
      rw [← h2, hr]
      rfl
    rw [hrow] at hK hQ
    clear h2 hrow
    conv => whnf
    refine hK _ _ ?_
    clear hK hQ K
    refine awp_seq2 fun K hK hQ => ?_
    conv => whnf
    intro bb hbb
    have hat2 := hat.more hbb (.tip 9 ((C G).T 9).size 1)
    conv => whnf
    refine Triple.use (exactly_ok rb (geS :: l') _ [geS] (by decide) _ hat2.at_) (by exact ⟨rfl, ⟨rfl, rfl⟩, trivial⟩) ?_
    rintro o S' ⟨rfl, rfl⟩
    have hat3 := hat2.words (ws' := l')
    rw [show (exactG (geS :: l') [geS]).2 = 0 by simp [exactG], show (exactG (geS :: l') [geS]).1 = l' by simp [exactG]]
    rw [show errAV 0 = .nili from rfl]
    have hcs3 := hat3.at_
    generalize (T.upd bb _).upd rb _ = S3 at hat3 hcs3 ⊢
    conv => whnf
    refine hK _ _ ?_
    clear hK hQ K
    have hnum := number_ok (G := G) rb l' _ (-1) (by decide) (by decide) S3 hcs3 (fun x hx => h4 x (by simp [hx]))
    have hat4 := hat3.words (ws' := (numG (-1) l').2.2)
    have hcs4 := hat4.at_
    unfold boundG
    generalize hl2 : (numG (-1) l').2.2 = l2 at *
    generalize (numG (-1) l').1 = nb at *
    generalize (numG (-1) l').2.1 = ne at *
    have hat5 := hat4.set (v' := { v with pieces := ps, bound := nb }) (ws' := l2) rfl rfl rfl rfl
    have hcs5 := hat5.at_
    by_cases hn0 : ne = 0
    · rw [if_pos hn0]
      subst hn0
      refine awp_seq2 fun K hK hQ => ?_
      conv => whnf
      refine hnum.mono ?_
      rintro o S' ⟨rfl, rfl⟩
      rw [show errAV 0 = .nili from rfl]
      conv => whnf
      refine hK _ _ ?_
      clear hK hQ K
      refine awp_seq2 fun K hK hQ => ?_
      conv => whnf
      refine ⟨_, _, hcs4, ?_⟩
      conv => whnf
      refine hK _ _ ?_
      clear hK hQ K
      conv => whnf
      intro b2 hb2
      have hat6 := hat5.more hb2 (.tip 9 ((C G).T 9).size 1)
      conv => whnf
      refine Triple.use (exactly_ok rb l2 _ [semiS] (by decide) _ hat6.at_) (by exact ⟨rfl, ⟨rfl, rfl⟩, trivial⟩) ?_
      rintro o S' ⟨rfl, rfl⟩
      have hat7 := hat6.words (ws' := (exactG l2 [semiS]).1)
      by_cases he : (exactG l2 [semiS]).2 = 0
      · simp only [errAV, if_pos he]
        conv => whnf
        exact ⟨_, _, ⟨rfl, t, hat7⟩, St.le_refl _, AV.leS_refl _ _ _⟩
      · simp only [errAV, if_neg he]
        conv => whnf
        exact ⟨_, _, ⟨rfl, t, hat7⟩, St.le_refl _, AV.leS_refl _ _ _⟩
    · rw [if_neg hn0]
      simp only [errAV, if_neg hn0] at hnum ⊢
      refine awp_seq2 fun K hK hQ => ?_
      conv => whnf
      refine hnum.mono ?_
      rintro o S' ⟨rfl, rfl⟩
      conv => whnf
      refine hK _ _ ?_
      clear hK hQ K
      refine awp_seq2 fun K hK hQ => ?_
      conv => whnf
      refine ⟨_, _, hcs4, ?_⟩
      conv => whnf
      refine hK _ _ ?_
      clear hK hQ K
      conv => whnf
      exact ⟨_, _, ⟨rfl, t, hat5⟩, St.le_refl _, AV.leS_refl _ _ _⟩
  · rw [decide_eq_false hge]
    clear hK
    cases l with
    | nil =>
      have hrow : rowG ws v = (82, [], { v with pieces := ps }) := by unfold rowG; rw [← h2]; rfl
      rw [hrow] at hQ
      conv => whnf
      refine (number_ok rb [] _ (-1) (by decide) (by decide) T hcs h4).mono ?_
      rintro o S' ⟨rfl, rfl⟩
      conv => whnf
      refine hQ _ _ _ (by simp) ?_
      conv => whnf
      exact ⟨_, _, ⟨rfl, t, hat.words⟩, St.le_refl _, AV.leS_refl _ _ _⟩
    | cons w l =>
      have hw0 : ¬ w = geS := fun e => hge (by simp [e])
      have hnum := number_ok (G := G) rb (w :: l) _ (-1) (by decide) (by decide) T hcs h4
      simp only [numG] at hnum
      cases hiw : isNumV w.data.toList (-1) with
      | false =>
        have hr : pieceG (w :: l) ps = (ps, 81, l) := by cases l <;> simp [pieceG, hw0, hiw]
        have hrow : rowG ws v = (81, l, { v with pieces := ps }) := by unfold rowG; rw [← h2, hr]; rfl
        rw [hrow] at hQ
        simp only [hiw, Bool.false_eq_true, if_false] at hnum
        conv => whnf
        refine hnum.mono ?_
        rintro o S' ⟨rfl, rfl⟩
        conv => whnf
        refine hQ _ _ _ (by simp) ?_
        conv => whnf
        exact ⟨_, _, ⟨rfl, t, hat.words⟩, St.le_refl _, AV.leS_refl _ _ _⟩
      | true =>
        simp only [hiw, if_true] at hnum
        have hat2 := hat.words (ws' := l)
        have hcs2 := hat2.at_
        have h4' : ∀ x ∈ l, x.size ≤ 9000000 := fun x hx => h4 x (by simp [hx])
        have hlit := rlit_ok hG rb l _ _ hcs2 h4'
        cases l with
        | nil =>
          have hr : pieceG [w] ps = (ps, 82, []) := by simp [pieceG, hw0, hiw]
          have hrow : rowG ws v = (82, [], { v with pieces := ps }) := by unfold rowG; rw [← h2, hr]; rfl
          rw [hrow] at hQ
          conv => whnf
          refine hnum.mono ?_
          rintro o S' ⟨rfl, rfl⟩
          conv => whnf
          refine hlit.mono ?_
          rintro o S' ⟨rfl, rfl⟩
          conv => whnf
          refine hQ _ _ _ (by simp) ?_
          conv => whnf
          exact ⟨_, _, ⟨rfl, t, hat2.words⟩, St.le_refl _, AV.leS_refl _ _ _⟩
        | cons x l =>
          have hat3 := hat2.words (ws' := l)
          have hcs3 := hat3.at_
          simp only [rlitG] at hlit
          generalize hz : litV x.data.toList = z at *
          by_cases hz0 : z = 0
          · have hr : pieceG (w :: x :: l) ps = (ps, 81, l) := by simp [pieceG, hw0, hiw, hz, hz0]
            have hrow : rowG ws v = (81, l, { v with pieces := ps }) := by unfold rowG; rw [← h2, hr]; rfl
            rw [hrow] at hQ
            simp only [if_pos hz0] at hlit
            conv => whnf
            refine hnum.mono ?_
            rintro o S' ⟨rfl, rfl⟩
            conv => whnf
            refine hlit.mono ?_
            rintro o S' ⟨rfl, rfl⟩
            conv => whnf
            refine hQ _ _ _ (by simp) ?_
            conv => whnf
            exact ⟨_, _, ⟨rfl, t, hat3⟩, St.le_refl _, AV.leS_refl _ _ _⟩
          · have hr : pieceG (w :: x :: l) ps = pieceG l (ps ++ [(w, z)]) := by simp [pieceG, hw0, hiw, hz, hz0]
            simp only [if_neg hz0] at hlit
            rw [hr] at h2
            clear hQ
            generalize (T.upd rb _).upd rb _ = S3 at hat3 hcs3 hlit ⊢
            conv => whnf
            refine hnum.mono ?_
            rintro o S' ⟨rfl, rfl⟩
            conv => whnf
            refine hlit.mono ?_
            rintro o S' ⟨rfl, rfl⟩
            rw [show errAV 0 = .nili from rfl]
            conv => whnf
            refine ⟨_, _, hcs3, ?_⟩
            conv => whnf
            intro bb hbb
            have hat4 := hat3.more hbb (.tip 57 2 1)
            conv => whnf
            refine ⟨⟨fun hl => ?_, ?_⟩, fun S4 c1 c2 b' c3 => ?_⟩
            · have : 0 < ps.length := by cases ps with
                | nil => exact absurd rfl hl
                | cons _ _ => simp
              rw [rowsP_len]; exact (hat4.t4 this).1
            · show ((rowsP ps).length + 1) * 24 ≤ _
              rw [rowsP_len]; simp at h3; omega
            have ha : AccStep (_ : St) t.b4 57 2 ps.length 1 b' (S4.upd b' (.tip 57 2 (ps.length + 1))) := .inr ⟨by simp, S4, fun e => c1 (by rw [List.eq_nil_of_length_eq_zero e]; rfl), fun e => c2 (by cases ps <;> simp_all [rowsP]), c3, rfl⟩
            obtain ⟨k1, k2⟩ := hat4.push4 ha (new := [(w, z)]) rfl
            rw [show rowsP ({ v with pieces := ps } : StepV).pieces ++ [[AV.str w, AV.int .i64 z]] = rowsP (ps ++ [(w, z)]) from rowsP_snoc ps (w, z), show (rowsP ({ v with pieces := ps } : StepV).pieces).length = ps.length from rowsP_len ps]
            conv => whnf
            refine ⟨_, _, k1, ?_⟩
            conv => whnf
            refine ⟨(l, ps ++ [(w, z)]), ⟨rfl, trivial⟩, ⟨_, St.leW_refl _, ⟨_, k2⟩, h2, by simp at h3 ⊢; omega, fun y hy => h4 y (by simp [hy])⟩, by show l.length < l.length + 1 + 1; omega⟩
end Go.Proofs.YtdlgedpmbeafdaaGreatDoor.Aw

set_option maxRecDepth 100000
set_option linter.unusedVariables false
set_option linter.unusedSimpArgs false
namespace Go.Proofs.YtdlgedpmbeafdaaGreatDoor.Aw
open Go Go.RowKit
variable {G : Nat → Option (List AV)}

def OkW (ws : List ByteArray) : Prop := (∀ w ∈ ws, w.size ≤ 9000000) ∧ ws.length ≤ 9000000
def OkV (v : StepV) : Prop := v.ops.length ≤ 10 ∧ v.pieces.length ≤ 10 ∧ v.lits.length ≤ 10 ∧ v.ids.length ≤ 10
theorem OkW.suffix {a b : List ByteArray} (h : OkW b) (hs : a <:+ b) : OkW a := ⟨fun w hw => h.1 w (hs.mem hw), Nat.le_trans hs.length_le h.2⟩
theorem exactG_suffix : ∀ (l xs : List ByteArray), (exactG l xs).1 <:+ l
  | l, [] => by cases l <;> exact List.suffix_refl _
  | [], _ :: _ => List.suffix_refl _
  | w :: l, x :: xs => by
    unfold exactG
    split
    · exact (exactG_suffix l xs).trans (List.suffix_cons _ _)
    · exact List.suffix_cons _ _
theorem numG_suffix (low : Int) : ∀ l : List ByteArray, (numG low l).2.2 <:+ l
  | [] => List.suffix_refl _
  | w :: l => by
    simp only [numG]
    split <;> exact List.suffix_cons _ _
theorem pieceG_suffix : ∀ (l : List ByteArray) (p : List (ByteArray × Int)), (pieceG l p).2.2 <:+ l
  | [], p => List.suffix_refl _
  | [w], p => by
    unfold pieceG
    split
    · exact List.suffix_refl _
    · split <;> exact List.suffix_cons _ _
  | w :: x :: l, p => by
    unfold pieceG
    split
    · exact List.suffix_refl _
    · split
      · split
        · exact (List.suffix_cons _ _).trans (List.suffix_cons _ _)
        · exact (pieceG_suffix l _).trans ((List.suffix_cons _ _).trans (List.suffix_cons _ _))
      · exact List.suffix_cons _ _
theorem rowG_suffix (ws : List ByteArray) (v : StepV) : (rowG ws v).2.1 <:+ ws := by
  unfold rowG
  have h := pieceG_suffix ws v.pieces
  split
  · unfold boundG
    have h1 := (List.tail_suffix (pieceG ws v.pieces).2.2).trans h
    have h2 := (numG_suffix (-1) (pieceG ws v.pieces).2.2.tail).trans h1
    split
    · exact (exactG_suffix _ _).trans h2
    · exact h2
  · exact h
theorem rowG_ids (ws : List ByteArray) (v : StepV) : (rowG ws v).2.2.ids = v.ids := by
  unfold rowG boundG
  split
  · split <;> rfl
  · rfl
abbrev RetG := Int × List ByteArray × StepV
def fixG (k : Int) (xs ws : List ByteArray) (v : StepV) : RetG := ((exactG ws xs).2, (exactG ws xs).1, { v with kind := k })
def headWords : List ByteArray := [⟨#[112, 114, 111, 111, 102]⟩, ⟨#[118, 101, 114, 115, 105, 111, 110]⟩, ⟨#[50, 46, 48]⟩]
def outputWords : List ByteArray := [⟨#[78, 79, 78, 69]⟩]
def lastWords : List ByteArray := [⟨#[112, 115, 101, 117, 100, 111, 45, 66, 111, 111, 108, 101, 97, 110]⟩, ⟨#[112, 114, 111, 111, 102]⟩]
theorem head_ok {S₀ S : St} {rb : Nat} {ws : List ByteArray} {v : StepV} (h : Rdr S₀ S rb ws v) :
    Triple P (C G) 62 [.ref rb 0] S fun o S' => o = .ret (errAV (fixG 1 headWords ws v).1) ∧ Rdr S₀ S' rb (fixG 1 headWords ws v).2.1 (fixG 1 headWords ws v).2.2 := by
  obtain ⟨t, hat⟩ := h
  have hcs := hat.at_
  have hat2 := hat.set (v' := { v with kind := 1 }) (ws' := ws) rfl rfl rfl rfl
  refine triple_of_awp (hT G) hm Tryz.func62 rfl (by decide +kernel) rfl (by decide +kernel) (by show 1 ≤ _; decide +kernel) rfl ?_
  conv => whnf
  refine ⟨_, _, hcs, ?_⟩
  conv => whnf
  intro bb hbb
  have hat3 := hat2.more hbb (.tip 9 ((C G).T 9).size 3)
  conv => whnf
  refine Triple.use (exactly_ok rb ws _ headWords (by decide) _ hat3.at_) (by exact ⟨rfl, ⟨rfl, rfl⟩, trivial⟩) ?_
  rintro o S' ⟨rfl, rfl⟩
  have hat4 := hat3.words (ws' := (exactG ws headWords).1)
  unfold fixG
  by_cases he : (exactG ws headWords).2 = 0
  · simp only [errAV, if_pos he]
    conv => whnf
    exact ⟨_, _, ⟨rfl, t, hat4⟩, St.le_refl _, AV.leS_refl _ _ _⟩
  · simp only [errAV, if_neg he]
    conv => whnf
    exact ⟨_, _, ⟨rfl, t, hat4⟩, St.le_refl _, AV.leS_refl _ _ _⟩
theorem output_ok {S₀ S : St} {rb : Nat} {ws : List ByteArray} {v : StepV} (h : Rdr S₀ S rb ws v) :
    Triple P (C G) 71 [.ref rb 0] S fun o S' => o = .ret (errAV (fixG 8 outputWords ws v).1) ∧ Rdr S₀ S' rb (fixG 8 outputWords ws v).2.1 (fixG 8 outputWords ws v).2.2 := by
  obtain ⟨t, hat⟩ := h
  have hcs := hat.at_
  have hat2 := hat.set (v' := { v with kind := 8 }) (ws' := ws) rfl rfl rfl rfl
  refine triple_of_awp (hT G) hm Tryz.func71 rfl (by decide +kernel) rfl (by decide +kernel) (by show 1 ≤ _; decide +kernel) rfl ?_
  conv => whnf
  refine ⟨_, _, hcs, ?_⟩
  conv => whnf
  intro bb hbb
  have hat3 := hat2.more hbb (.tip 9 ((C G).T 9).size 1)
  conv => whnf
  refine Triple.use (exactly_ok rb ws _ outputWords (by decide) _ hat3.at_) (by exact ⟨rfl, ⟨rfl, rfl⟩, trivial⟩) ?_
  rintro o S' ⟨rfl, rfl⟩
  have hat4 := hat3.words (ws' := (exactG ws outputWords).1)
  unfold fixG
  by_cases he : (exactG ws outputWords).2 = 0
  · simp only [errAV, if_pos he]
    conv => whnf
    exact ⟨_, _, ⟨rfl, t, hat4⟩, St.le_refl _, AV.leS_refl _ _ _⟩
  · simp only [errAV, if_neg he]
    conv => whnf
    exact ⟨_, _, ⟨rfl, t, hat4⟩, St.le_refl _, AV.leS_refl _ _ _⟩
theorem last_ok {S₀ S : St} {rb : Nat} {ws : List ByteArray} {v : StepV} (h : Rdr S₀ S rb ws v) :
    Triple P (C G) 73 [.ref rb 0] S fun o S' => o = .ret (errAV (fixG 10 lastWords ws v).1) ∧ Rdr S₀ S' rb (fixG 10 lastWords ws v).2.1 (fixG 10 lastWords ws v).2.2 := by
  obtain ⟨t, hat⟩ := h
  have hcs := hat.at_
  have hat2 := hat.set (v' := { v with kind := 10 }) (ws' := ws) rfl rfl rfl rfl
  refine triple_of_awp (hT G) hm Tryz.func73 rfl (by decide +kernel) rfl (by decide +kernel) (by show 1 ≤ _; decide +kernel) rfl ?_
  conv => whnf
  refine ⟨_, _, hcs, ?_⟩
  conv => whnf
  intro bb hbb
  have hat3 := hat2.more hbb (.tip 9 ((C G).T 9).size 2)
  conv => whnf
  refine Triple.use (exactly_ok rb ws _ lastWords (by decide) _ hat3.at_) (by exact ⟨rfl, ⟨rfl, rfl⟩, trivial⟩) ?_
  rintro o S' ⟨rfl, rfl⟩
  have hat4 := hat3.words (ws' := (exactG ws lastWords).1)
  unfold fixG
  by_cases he : (exactG ws lastWords).2 = 0
  · simp only [errAV, if_pos he]
    conv => whnf
    exact ⟨_, _, ⟨rfl, t, hat4⟩, St.le_refl _, AV.leS_refl _ _ _⟩
  · simp only [errAV, if_neg he]
    conv => whnf
    exact ⟨_, _, ⟨rfl, t, hat4⟩, St.le_refl _, AV.leS_refl _ _ _⟩
def noteG (ws : List ByteArray) (v : StepV) : RetG := (0, [], { v with kind := 7 })
theorem note_ok {S₀ S : St} {rb : Nat} {ws : List ByteArray} {v : StepV} (h : Rdr S₀ S rb ws v) :
    Triple P (C G) 70 [.ref rb 0] S fun o S' => o = .ret (errAV (noteG ws v).1) ∧ Rdr S₀ S' rb (noteG ws v).2.1 (noteG ws v).2.2 := by
  obtain ⟨t, hat⟩ := h
  have hcs := hat.at_
  have hn : Triple P (C G) 70 [.ref rb 0] S fun o S' => o = .ret .nili ∧ S' = S.upd rb (.obj 87 (.nils :: stepC { v with kind := 7 } t)) := by
    refine triple_of_awp (hT G) hm Tryz.func70 rfl (by decide +kernel) rfl (by decide +kernel) (by show 1 ≤ _; decide +kernel) rfl ?_
    conv => whnf
    refine ⟨_, _, hcs, ?_⟩
    conv => whnf
    refine ⟨_, _, St.upd_same _ _ _, ?_⟩
    conv => whnf
    refine ⟨_, _, ⟨rfl, rfl⟩, ?_, AV.leS_refl _ _ _⟩
    rw [St.upd_upd]
    exact St.le_refl _
  refine Triple.lessW hn ?_
  rintro o S' ⟨rfl, rfl⟩
  refine ⟨_, ⟨rfl, t, hat.set (v' := { v with kind := 7 }) (ws' := []) rfl rfl rfl rfl⟩, ?_⟩
  have := St.leW_upd (cs' := .sl .any 1 (rowsS []) :: stepC { v with kind := 7 } t) (St.upd_same S rb (.obj 87 (.nils :: stepC { v with kind := 7 } t))) ⟨rfl, leL_refl _⟩
  rwa [St.upd_upd] at this
end Go.Proofs.YtdlgedpmbeafdaaGreatDoor.Aw

/-
  hallmarklaw16.WriteReads, walked: it answers true.
  hallmarklaw16.WriteReads, walked: it answers true.
-/
import Derived.Test.YtcpdgnkhkdddhaaGreatDoorWrd15
set_option maxRecDepth 100000
set_option linter.unusedVariables false
set_option linter.unusedSimpArgs false
namespace Go.Proofs.YtcpdgnkhkdddhaaGreatDoor.Aw
open Go Go.RowKit
variable {G : Nat → Option (List AV)}

theorem knownW_ok (hG : GS G) (hA : GAs G) (S : St) : Triple P (C G) 22 [] S fun o S' => o = .ret (.bool true) ∧ S' = S := by
  have hnew := fun S => New_ok (G := G) hG hA 2 false (by decide) S
  rw [kw_new] at hnew
  have f1 : Fits ⟨kwL0, false, 3, false⟩ kw1 := fits_of (small_row 4 [(⟨#[49]⟩, 1)] ⟨#[49]⟩ [] (by simp [okI]) (by simp [okI]) (c := 4) (by decide) (by decide)) (by decide) (by decide) (by decide +kernel)
  have f2 : Fits ⟨kwL0 ++ [kw1], false, 4, false⟩ kw2 := fits_of (small_pol [(1, ⟨#[51]⟩, 0), (1, ⟨#[50]⟩, 0), (3, ByteArray.empty, 0)] (by simp [okI]) (c := 5) (by decide) (by decide)) (by decide) (by decide) (by decide +kernel)
  have f3 : Fits ⟨kwL0 ++ [kw1] ++ [kw2], false, 5, false⟩ kw3 := fits_of (small_del [3] (by simp [okI]) (c := 1) (by decide) (by decide)) (by decide) (by decide) (by decide +kernel)
  have h1 := fun {S₀ S : St} (wb : Nat) (h : Log S₀ S wb ⟨kwL0, false, 3, false⟩) => Rup_ok (G := G) hG hA h [(⟨#[49]⟩, 1)] ⟨#[49]⟩ [] (by simp [okI]) (by decide) f1 ⟨by decide, by decide⟩
  have h2 := fun {S₀ S : St} (wb : Nat) (h : Log S₀ S wb ⟨kwL0 ++ [kw1], false, 4, false⟩) => Pol_ok (G := G) hG hA h [(1, ⟨#[51]⟩, 0), (1, ⟨#[50]⟩, 0), (3, ByteArray.empty, 0)] f2 ⟨by decide, by decide⟩
  have h3 := fun {S₀ S : St} (wb : Nat) (h : Log S₀ S wb ⟨kwL0 ++ [kw1] ++ [kw2], false, 5, false⟩) => Del_ok (G := G) hG hA h [3] (by simp [okI]) (by decide) f3
  have h4 := fun {S₀ S : St} (wb : Nat) (h : Log S₀ S wb ⟨kwL0 ++ [kw1] ++ [kw2] ++ [kw3], false, 5, false⟩) => End_ok (G := G) hG hA h 2 4 0 0 ⟨by decide, by decide⟩ ⟨by decide, by decide⟩ ⟨by decide, by decide⟩ (by decide) (by decide +kernel)
  have f5 : Fits ⟨kwL, true, 5, false⟩ (rupS [] ⟨#[48]⟩ (decL [])) := fits_of (small_row 4 [] ⟨#[48]⟩ [] (by simp [okI]) (by simp [okI]) (c := 4) (by decide) (by decide)) (by decide) (by decide) (by decide +kernel)
  have h5 := fun {S₀ S : St} (wb : Nat) (h : Log S₀ S wb ⟨kwL, true, 5, false⟩) => Rup_ok (G := G) hG hA h [] ⟨#[48]⟩ [] (by simp [okI]) (by decide) f5 ⟨by decide, by decide⟩
  rw [show rupS [(⟨#[49]⟩, 1)] ⟨#[49]⟩ (decL []) = kw1 from rfl, addsV_good kw_1] at h1
  rw [show polS [(1, ⟨#[51]⟩, 0), (1, ⟨#[50]⟩, 0), (3, ByteArray.empty, 0)] = kw2 from rfl, addsV_good kw_2] at h2
  rw [show delS (decL [3]) = kw3 from rfl, layV_good kw_3] at h3
  rw [kw_end] at h4
  rw [show addsV ⟨kwL, true, 5, false⟩ (rupS [] ⟨#[48]⟩ (decL [])) true = ((0, 161), ⟨kwL, true, 5, false⟩) from rfl] at h5
  have ht : decide (logS ⟨kwL, true, 5, false⟩ = ⟨#[112]⟩) = false := by decide +kernel
  dsimp only at h1 h2 h3 h4 h5
  refine triple_of_awp (hT G) hm Tryz.func22 rfl (by decide +kernel) rfl (by decide +kernel) (by show 0 ≤ _; decide +kernel) rfl ?_
  refine awp_seq2 fun K hK hQ => ?_
  conv => whnf
  refine hK _ _ ?_
  clear hK hQ K
  refine awp_seq2 fun K hK hQ => ?_
  conv => whnf
  refine (hnew _).mono ?_
  rintro o T0 ⟨wb, rfl, hL⟩
  conv => whnf
  refine hK _ _ ?_
  clear hK hQ K
  refine awp_seq2 fun K hK hQ => ?_
  conv => whnf
  refine hK _ _ ?_
  clear hK hQ K
  have hle := hL.choose_spec.choose_spec.le
  refine awp_seq2 fun K hK hQ => ?_
  conv => whnf
  intro b1 hb1
  conv => whnf
  have hL := hL.more hb1 (.tip 136 2 1)
  refine (Triple.args (Triple.argAt [.ref wb 0] [.sl .any 1 (rowsI [])] (h1 wb hL) (xs := [.sl (.own b1) 2 [[.str ⟨#[49]⟩, .int .i64 1]], .str ⟨#[49]⟩]) (by exact ⟨⟨rfl, rfl⟩, rfl, trivial⟩)) (by exact ⟨rfl, rfl, rfl, trivial⟩)).mono ?_
  rintro o T1 ⟨rfl, hL1⟩
  conv => whnf
  refine hK _ _ ?_
  clear hK hQ K hL
  refine awp_seq2 fun K hK hQ => ?_
  conv => whnf
  intro b2 hb2
  conv => whnf
  have hL1 := hL1.more hb2 (.tip 123 3 3)
  refine (Triple.args (h2 wb hL1) (by exact ⟨rfl, ⟨rfl, rfl⟩, trivial⟩)).mono ?_
  rintro o T2 ⟨rfl, hL2⟩
  conv => whnf
  refine hK _ _ ?_
  clear hK hQ K hL1
  refine awp_seq2 fun K hK hQ => ?_
  conv => whnf
  intro b3 hb3
  conv => whnf
  have hL2 := hL2.more hb3 (.tip 3 1 1)
  refine (Triple.args (h3 wb hL2) (by exact ⟨rfl, ⟨rfl, rfl⟩, trivial⟩)).mono ?_
  rintro o T3 ⟨rfl, hL3⟩
  conv => whnf
  refine (h4 wb hL3).mono ?_
  rintro o T4 ⟨rfl, hL4⟩
  conv => whnf
  refine hK _ _ ?_
  clear hK hQ K hL2 hL3
  refine awp_seq2 fun K hK hQ => ?_
  conv => whnf
  refine (Triple.args (Triple.argAt [.ref wb 0] [.sl .any 1 (rowsI [])] (h5 wb hL4) (xs := [.nils, .str ⟨#[48]⟩]) (by exact ⟨rfl, rfl, trivial⟩)) (by exact ⟨rfl, rfl, rfl, trivial⟩)).mono ?_
  rintro o T5 ⟨rfl, hL5⟩
  conv => whnf
  refine hK _ _ ?_
  clear hK hQ K hL4
  have hn := fun e S => num16_ok (G := G) e S
  refine awp_seq2 fun K hK hQ => ?_
  conv => whnf
  refine (hn 0 _).mono ?_
  rintro o T ⟨rfl, rfl⟩
  conv => whnf
  refine (hn 0 _).mono ?_
  rintro o T ⟨rfl, rfl⟩
  conv => whnf
  refine (hn 0 _).mono ?_
  rintro o T ⟨rfl, rfl⟩
  conv => whnf
  refine (hn 0 _).mono ?_
  rintro o T ⟨rfl, rfl⟩
  conv => whnf
  refine (hn 161 _).mono ?_
  rintro o T ⟨rfl, rfl⟩
  conv => whnf
  refine (Text_w_ok hL5).mono ?_
  rintro o T ⟨rfl, rfl⟩
  conv => whnf
  refine hK _ _ ?_
  clear hK hQ K
  conv => whnf
  refine ⟨.bool true, _, ⟨rfl, rfl⟩, (hL5.choose_spec.choose_spec.le), ?_⟩
  exact congrArg AV.bool (by decide +kernel)
end Go.Proofs.YtcpdgnkhkdddhaaGreatDoor.Aw

set_option maxRecDepth 100000
set_option linter.unusedVariables false
set_option linter.unusedSimpArgs false
namespace Go.Proofs.YtcpdgnkhkdddhaaGreatDoor.Aw
open Go Go.RowKit
variable {G : Nat → Option (List AV)}

theorem SmallS.mono {v : StepV} {n m : Nat} (h : SmallS v n) (hm : n ≤ m) : SmallS v m := ⟨h.ok, Nat.le_trans h.text hm⟩
structure InvW (l : List OpC) (goal : Bool) (i : Nat) (w : LogV) : Prop where
  goal : w.goal = goal
  laid : Laid w
  next0 : 0 ≤ w.next
  next1 : w.next ≤ 1152921504606846977 + i
  len : w.st.length ≤ 3 + 3 * i
  size : (logT w.st).length ≤ 5000 + 3 * (70 * costs (l.take i) + 2501 * i)
  texts : ∀ v ∈ w.st, (textT v).size ≤ 8999999
  le : i ≤ l.length
theorem costs_take (l : List OpC) (i : Nat) (h : i < l.length) : costs (l.take (i + 1)) = costs (l.take i) + costO l[i] := by
  rw [List.take_add_one, List.getElem?_eq_getElem h]
  unfold costs
  rw [List.map_append, List.sum_append]
  simp only [Option.toList_some, List.map_cons, List.map_nil, List.sum_cons, List.sum_nil, Nat.add_zero]
theorem costs_le (l : List OpC) (i : Nat) : costs (l.take i) ≤ costs l := by
  have := congrArg costs (List.take_append_drop i l)
  unfold costs at this ⊢
  rw [List.map_append, List.sum_append] at this
  omega
theorem cost_mem {l : List OpC} : ∀ o ∈ l, costO o ≤ costs l := by
  induction l with
  | nil => intro s hs; cases hs
  | cons x l ih =>
    intro s hs
    have e : costs (x :: l) = costO x + costs l := by simp [costs]
    rcases List.mem_cons.1 hs with rfl | hs
    · omega
    · have := ih s hs; omega
theorem InvW.step {l : List OpC} {goal : Bool} {i : Nat} {w w' : LogV} {n e : Int} {adds fin : Bool} (h : InvW l goal i w) (hi : i < l.length) (hp : PlayOk w w' n e adds fin (70 * costO l[i] + 2500)) (hc : costs l ≤ 20000) : InvW l goal (i + 1) w' := by
  have h1 := costs_take l i hi
  have h2 := cost_mem _ (List.getElem_mem hi)
  have hno : ¬ (e = 0 ∧ adds = true) → e ≠ 0 ∨ adds = false := fun he => by
    by_cases e0 : e = 0
    · exact .inr (by simpa [e0] using he)
    · exact .inl e0
  refine ⟨hp.goal.trans h.goal, hp.laid h.laid, ?_, ?_, ?_, ?_, hp.texts (by omega) h.texts, hi⟩
  · have h0 := h.next0
    by_cases he : e = 0 ∧ adds = true
    · have := (hp.add he.1 he.2).2; omega
    · rw [hp.noadd (hno he)]; exact h0
  · have h0 := h.next1
    by_cases he : e = 0 ∧ adds = true
    · have := (hp.add he.1 he.2).2; omega
    · rw [hp.noadd (hno he)]; omega
  · have := h.len; have := hp.len; omega
  · have := h.size; have := hp.size; omega
theorem InvW.skip {l : List OpC} {goal : Bool} {i : Nat} {w : LogV} (h : InvW l goal i w) (hi : i < l.length) : InvW l goal (i + 1) w := by
  have h1 := costs_take l i hi
  exact ⟨h.goal, h.laid, h.next0, by have := h.next1; omega, by have := h.len; omega, by have := h.size; omega, h.texts, hi⟩
theorem le_of {x y : AV} (h : x = y) : AV.le x y := by rw [h]; exact AV.le_refl _
/-- What the law's variables hold. -/
structure EnvL (env : Env) (goal : Bool) (l : List OpC) (wb : Nat) (next : Int) (ov : Bool) (i b11 : Nat) (n e : Int) (adds : Bool) : Prop where
  l1 : look 1 env = .bool goal
  l2 : look 2 env = .sl .any 10 (rowsC l)
  l7 : look 7 env = .ref wb 0
  l8 : look 8 env = .int .i64 next
  l9 : look 9 env = .bool ov
  l10 : look 10 env = .int .i64 (i : Int)
  l11 : look 11 env = .ref b11 0
  l12 : look 12 env = .int .i64 n
  l13 : look 13 env = .int .i64 e
  l14 : look 14 env = .bool adds
theorem lawReads_ok {m : Int} (hM : G 1 = some [.int .i64 m]) (hG : GS G) (hA : GAs G) (rows : Int) (goal : Bool) (l : List OpC) (hsz : ∀ o ∈ l, SzOp o) (hint : ∀ o ∈ l, IntOp o) (S : St) :
    Triple P (C G) 6 [.int .i64 rows, .bool goal, .sl .any 10 (rowsC l)] S fun o S' => o = .ret (.bool true) ∧ S' = S := by
  have hkn := fun S => knownW_ok (G := G) hG hA S
  have hfew := fun S => few_ok (G := G) l hsz S
  have hn := fun e S => num16_ok (G := G) e S
  refine triple_of_awp (hT G) hm Tryz.func6 rfl (by decide +kernel) rfl (by decide +kernel) (by show 3 ≤ _; decide +kernel) rfl ?_
  refine awp_seq2 fun K hK hQ => ?_
  conv => whnf
  refine hK _ _ ?_
  clear hK hQ K
  refine awp_seq2 fun K hK hQ => ?_
  conv => whnf
  refine (hkn _).mono ?_
  rintro o T ⟨rfl, rfl⟩
  conv => whnf
  refine hK _ _ ?_
  clear hK hQ K
  refine awp_seq2 fun K hK hQ => ?_
  conv => whnf
  refine (hfew _).mono ?_
  rintro o T ⟨rfl, rfl⟩
  cases hB : (decide (0 ≤ cntOs 20000 l) && decide (l.length ≤ 200)) with
  | false =>
    conv => whnf
    refine hQ _ _ _ (by simp) ?_
    conv => whnf
    exact ⟨_, _, ⟨rfl, rfl⟩, St.le_refl _, AV.leS_refl _ _ _⟩
  | true =>
  rw [Bool.and_eq_true, decide_eq_true_eq, decide_eq_true_eq] at hB
  obtain ⟨hB1, _⟩ := hB
  have hcost : costs l ≤ 20000 := by obtain ⟨_, h2⟩ := cntOs_back hB1; omega
  conv => whnf
  intro _
  conv => whnf
  refine split_of (fun hb60 => ?_) (fun hb60 => ?_)
  · conv => whnf
    refine hQ _ _ _ (by simp) ?_
    conv => whnf
    exact ⟨_, _, ⟨rfl, rfl⟩, St.le_refl _, AV.leS_refl _ _ _⟩
  have h60 : l.length ≤ 60 := by have := of_decide_eq_false hb60; rw [rowsC_len] at this; omega
  conv => whnf
  refine split_of (fun hbr => ?_) (fun hbr => ?_)
  · conv => whnf
    refine hQ _ _ _ (by simp) ?_
    conv => whnf
    exact ⟨_, _, ⟨rfl, rfl⟩, St.le_refl _, AV.leS_refl _ _ _⟩
  have hrows : rows ≤ 1152921504606846976 := by have := of_decide_eq_false hbr; omega
  conv => whnf
  refine hK _ _ ?_
  clear hK hQ K hkn hfew
  have hnew := fun S => New_ok (G := G) hG hA rows goal hrows S
  obtain ⟨nv1, nv2, nv3, nv4, nv5, nv6, nv7⟩ := newV_facts rows goal hrows
  have h0 : 0 ≤ rows0 rows ∧ rows0 rows ≤ 1152921504606846976 := by unfold rows0; split <;> omega
  have hI0 : InvW l goal 0 (newV rows goal) := ⟨nv3, nv4, by omega, by omega, by omega, by omega, nv7, by omega⟩
  have w1 : IntKind.i64.wrap (rows0 rows + 1) = (newV rows goal).next := by rw [nv2]; exact wrap_i64 (by omega) (by omega)
  generalize newV rows goal = w0 at *
  clear nv2 nv3 nv4 nv5 nv6 nv7
  refine awp_seq2 fun K hK hQ => ?_
  conv => whnf
  refine (hnew _).mono ?_
  rintro o T0 ⟨wb, rfl, hL⟩
  conv => whnf
  refine hK _ _ ?_
  clear hK hQ K
  refine awp_seq2 fun K hK hQ => ?_
  conv => whnf
  refine hK _ _ ?_
  clear hK hQ K
  refine awp_seq2 fun K hK hQ => ?_
  conv => whnf
  refine hK _ _ ?_
  clear hK hQ K
  refine awp_seq2 fun K hK hQ => ?_
  conv => whnf
  refine hK _ _ ?_
  clear hK hQ K
  refine awp_seq2 fun K hK hQ => ?_
  conv => whnf
  refine ⟨⟨Nat × LogV, fun x => [(1, .bool goal), (2, .sl .any 10 (rowsC l)), (7, .ref wb 0), (8, .int .i64 x.2.next), (9, .bool x.2.over), (10, .int .i64 (x.1 : Int))],
    fun x S1 => Log T S1 wb x.2 ∧ InvW l goal x.1 x.2, fun x => l.length - x.1⟩,
    ⟨(0, w0), ⟨rfl, ⟨rfl, rfl⟩, rfl, congrArg (AV.int .i64) w1, congrArg AV.bool nv1.symm, rfl, trivial⟩, _, St.leW_refl _, hL, hI0⟩, ?_⟩
  clear hL hI0 w1 nv1 hnew
  rintro ⟨i, w⟩ S1 ⟨hL, hI⟩
  dsimp only at hL hI
  refine awp_seq2 fun K1 hK1 hQ1 => ?_
  conv => whnf
  intro hlen
  conv => whnf
  refine split_of (fun hlt => ?_) (fun hlt => ?_)
  · have hlt : i < l.length := by have := of_decide_eq_true hlt; rw [rowsC_len] at this; omega
    have ga : (rowsC l)[(i : Int).toNat]? = some (opC l[i]) := by simp [rowsC, hlt]
    have hsi := hsz _ (List.getElem_mem hlt)
    have hii := hint _ (List.getElem_mem hlt)
    have hci := cost_mem _ (List.getElem_mem hlt)
    have hst := fun w' n e adds fin hp => InvW.step (w' := w') (n := n) (e := e) (adds := adds) (fin := fin) hI hlt hp hcost
    generalize l[i] = o at *
    conv => whnf
    refine hK1 _ _ ?_
    clear hK1 hQ1 K1
    refine awp_seq2 fun K3 hK3 hQ3 => ?_
    refine awp_block ?_
    refine awp_seq2 fun K4 hK4 hQ4 => ?_
    conv => whnf
    refine ⟨_, ⟨by dsimp only; omega, ga⟩, ?_⟩
    conv => whnf
    intro b11 hb11
    conv => whnf
    refine ⟨_, _, St.upd_same _ _ _, ?_⟩
    conv => whnf
    rw [St.upd_upd]
    refine hK4 _ _ ?_
    clear hK4 hQ4 K4
    have zT : T b11 = none := (by obtain ⟨_, _, hL⟩ := hL; exact St.le_none hL.le hb11)
    have hLo := hL.over (.inl hb11) (.obj 90 (opC o))
    have q11 := St.upd_same S1 b11 (.obj 90 (opC o))
    have hleT := St.le_upd' (St.le_refl T) zT (.obj 90 (opC o))
    have q11T := St.upd_same T b11 (.obj 90 (opC o))
    unfold opC at hLo q11 hleT q11T
    change awp _ _ _ _ (S1.upd b11 (.obj 90 [.int .i64 o.kind, .bool o.second, .sl .any 2 (rowsP o.ps), .str o.bound, .sl .any 3 (rowsO o.ops), .sl .any 1 (rowsI o.l), .int .i64 o.a, .int .i64 o.b, .int .i64 o.c, .int .i64 o.d])) _
    generalize T.upd b11 (.obj 90 [.int .i64 o.kind, .bool o.second, .sl .any 2 (rowsP o.ps), .str o.bound, .sl .any 3 (rowsO o.ops), .sl .any 1 (rowsI o.l), .int .i64 o.a, .int .i64 o.b, .int .i64 o.c, .int .i64 o.d]) = TT at *
    have hL0 := hL
    generalize hSS : S1.upd b11 (.obj 90 [.int .i64 o.kind, .bool o.second, .sl .any 2 (rowsP o.ps), .str o.bound, .sl .any 3 (rowsO o.ops), .sl .any 1 (rowsI o.l), .int .i64 o.a, .int .i64 o.b, .int .i64 o.c, .int .i64 o.d]) = SS at *
    refine awp_seq2 fun K5 hK5 hQ5 => ?_
    conv => whnf
    refine hK5 _ _ ?_
    clear hK5 hQ5 K5
    refine awp_seq2 fun K5 hK5 hQ5 => ?_
    conv => whnf
    refine hK5 _ _ ?_
    clear hK5 hQ5 K5
    refine awp_seq2 fun K5 hK5 hQ5 => ?_
    have hi60 : i ≤ 60 := by omega
    have hcl := costs_le l i
    have hl1 : w.st.length ≤ 900000 := by have := hI.len; omega
    have hl2 : (logT w.st).length ≤ 900000000 := by have := hI.size; omega
    have hnx : OkNext w := ⟨hI.next0, by have := hI.next1; omega⟩
    have hrest : ∀ (env : Env) (T1 : St) (n e : Int) (adds fin : Bool) (w' : LogV), EnvL env goal l wb w.next w.over i b11 n e adds → (o.kind == 6) = fin → Log TT T1 wb w' → PlayOk w w' n e adds fin (70 * costO o + 2500) → K5 .normal env T1 := by
      intro env T1 n e adds fin w' h hfin hLg hP
      have hI' := hst _ _ _ _ _ hP
      refine hK5 _ _ ?_
      clear hK5 hQ5
      refine awp_seq2 fun K6 hK6 hQ6 => ?_
      have hr2 : ∀ env, EnvL env goal l wb w.next w.over i b11 n e adds → K6 .normal env T1 := by
        clear h
        intro env h
        refine hK6 _ _ ?_
        clear hK6 hQ6
        refine awp_seq2 fun K7 hK7 hQ7 => ?_
        have hr3 : ∀ env, EnvL env goal l wb w'.next w.over i b11 n e adds → K7 .normal env T1 := by
          clear h
          intro env h
          refine hK7 _ _ ?_
          clear hK7 hQ7
          refine awp_seq2 fun K8 hK8 hQ8 => ?_
          have hr4 : ∀ env, EnvL env goal l wb w'.next w'.over i b11 n e adds → K8 .normal env T1 := by
            clear h
            intro env h
            refine hK8 _ _ ?_
            clear hK8 hQ8
            obtain ⟨r1, r2⟩ := hI'.laid.read
            have hsz5 : (logS w').size < 100000001 := by rw [logS_size]; have := hI'.size; have := costs_le l (i + 1); omega
            have hrd := fun S => Read_ok (G := G) hM hG hA (logS w') hsz5 (by rw [r1]; intro x hx; obtain ⟨v, hv, rfl⟩ := List.mem_map.1 hx; exact hI'.texts v hv) S
            rw [r2] at hrd
            unfold readAV at hrd
            dsimp only at hrd
            have hsp := Steps_w_ok (G := G) hM hG hA hLg hI'.laid hsz5 hI'.texts
            have htx := Text_w_ok (G := G) hLg
            have hne := Next_ok (G := G) hLg
            have hlen' : w'.st.length ≤ 1000000 := by have := hI'.len; omega
            have hsame : ∀ v ∈ w'.st, ∀ S, Triple P (C G) 14 [stepAV v, stepAV v] S fun o S' => o = .ret (.bool true) ∧ S' = S := fun v hv S => by
              have hp := parseP_len (textT v) (hI'.texts v hv)
              rw [(printP_parse (hI'.laid v hv)).2] at hp
              exact Same_self v (Nat.le_trans hp.ops (by decide)) (Nat.le_trans hp.row (by decide)) (Nat.le_trans hp.lits (by decide)) (Nat.le_trans hp.ids (by decide)) S
            generalize hst' : w'.st = st at *
            refine awp_seq2 fun K9 hK9 hQ9 => ?_
            conv => whnf
            generalize hx : ev (C G) _ (Operand.tmp 7) = x
            obtain rfl := hx.symm.trans h.l7
            clear hx
            conv => whnf
            refine htx.mono ?_
            rintro o' T2 ⟨rfl, rfl⟩
            conv => whnf
            refine (hrd _).mono ?_
            rintro o' T2 ⟨rfl, rfl⟩
            conv => whnf
            refine hK9 _ _ ?_
            clear hK9 hQ9 K9
            refine awp_seq2 fun K9 hK9 hQ9 => ?_
            conv => whnf
            generalize hx : ev (C G) _ (Operand.tmp 7) = x
            obtain rfl := hx.symm.trans h.l7
            clear hx
            conv => whnf
            refine hsp.mono ?_
            rintro o' T2 ⟨rfl, rfl⟩
            conv => whnf
            refine hK9 _ _ ?_
            clear hK9 hQ9 K9
            refine awp_seq2 fun K9 hK9 hQ9 => ?_
            conv => whnf
            generalize hx : ev (C G) _ (Operand.tmp 7) = x
            obtain rfl := hx.symm.trans h.l7
            clear hx
            conv => whnf
            refine hne.mono ?_
            rintro o' T2 ⟨rfl, rfl⟩
            conv => whnf
            generalize hx : ev (C G) _ (Operand.tmp 8) = x
            obtain rfl := hx.symm.trans h.l8
            clear hx
            conv => whnf
            rw [show (w'.next != w'.next) = false from bne_self_eq_false _]
            conv => whnf
            intro _
            conv => whnf
            intro _
            conv => whnf
            rw [show (((rowsT st).length : Int) != ((rowsT st).length : Int)) = false from bne_self_eq_false _]
            conv => whnf
            refine hK9 _ _ ?_
            clear hK9 hQ9 K9
            refine awp_seq2 fun K9 hK9 hQ9 => ?_
            conv => whnf
            refine hK9 _ _ ?_
            clear hK9 hQ9 K9
            conv => whnf
            refine ⟨⟨Nat, fun k => [(1, .bool goal), (2, .sl .any 10 (rowsC l)), (7, .ref wb 0), (8, .int .i64 w'.next), (9, .bool w'.over), (10, .int .i64 (i : Int)), (15, .sl .any 10 (rowsT st)), (17, .sl .any 10 (rowsT st)), (18, .int .i64 (k : Int))],
              fun k S' => S' = T2 ∧ k ≤ st.length, fun k => st.length - k⟩,
              ⟨0, ⟨le_of h.l1, le_of h.l2, le_of h.l7, le_of h.l8, le_of h.l9, le_of h.l10, ⟨rfl, rfl⟩, ⟨rfl, rfl⟩, rfl, trivial⟩, _, St.leW_refl _, rfl, by omega⟩, ?_⟩
            rintro (k : Nat) S2 ⟨rfl, hk⟩
            conv => whnf
            intro hlen2
            conv => whnf
            refine split_of (fun hlt2 => ?_) (fun hlt2 => ?_)
            · have hlt2 : k < st.length := by have := of_decide_eq_true hlt2; rw [rowsT_len] at this; omega
              have gk : (rowsT st)[(k : Int).toNat]? = some (stepR st[k]) := by simp [rowsT, hlt2]
              have hsm := hsame _ (List.getElem_mem hlt2)
              have w1 : IntKind.i64.wrap ((k : Int) + 1) = ((k + 1 : Nat) : Int) := wrap_nat (by omega)
              generalize st[k] = v at *
              refine ⟨[], (.free 0 (.free 1 (.free 2 (.free 3 (.free 4 (.free 5 (.free 6 (.free 7 (.one 8 (.free 9 .done) .none))))))))), _, by decide +kernel, ?_, fun _ _ h => ⟨_, .inl rfl, h⟩⟩
              conv => whnf
              refine ⟨_, ⟨by omega, gk⟩, ?_⟩
              conv => whnf
              refine ⟨_, ⟨by omega, gk⟩, ?_⟩
              conv => whnf
              refine (hsm _).mono ?_
              rintro o' T2 ⟨rfl, rfl⟩
              conv => whnf
              exact ⟨k + 1, ⟨rfl, ⟨rfl, rfl⟩, rfl, rfl, rfl, rfl, ⟨rfl, rfl⟩, ⟨rfl, rfl⟩, congrArg _ w1, trivial⟩, ⟨_, St.leW_refl _, rfl, hlt2⟩, by show st.length - (k + 1) < st.length - k; omega⟩
            · conv => whnf
              refine hK3 _ _ ?_
              conv => whnf
              have w1 : IntKind.i64.wrap ((i : Int) + 1) = ((i + 1 : Nat) : Int) := wrap_nat (by omega)
              exact ⟨(i + 1, w'), ⟨rfl, ⟨rfl, rfl⟩, rfl, rfl, rfl, congrArg _ w1, trivial⟩, ⟨_, St.leW_refl _, hLg.down hleT, hI'⟩, by show l.length - (i + 1) < l.length - i; omega⟩
          conv => whnf
          generalize hx : ev (C G) _ (Operand.tmp 9) = x
          obtain rfl := hx.symm.trans h.l9
          clear hx
          conv => whnf
          have hov' := hP.over'
          cases hov : w.over with
          | true =>
            rw [hov, Bool.true_or] at hov'
            conv => whnf
            exact hr4 _ ⟨h.l1, h.l2, h.l7, h.l8, congrArg _ hov'.symm, h.l10, h.l11, h.l12, h.l13, h.l14⟩
          | false =>
            rw [hov, Bool.false_or] at hov'
            obtain ⟨d1, d2, hLg'⟩ := hLg
            have q11' := hLg'.le _ _ q11T
            conv => whnf
            generalize hx : ev (C G) _ (Operand.tmp 11) = x
            obtain rfl := hx.symm.trans h.l11
            clear hx
            conv => whnf
            refine ⟨_, _, q11', ?_⟩
            conv => whnf
            rw [hfin]
            cases fin with
            | false =>
              rw [Bool.false_and] at hov'
              conv => whnf
              exact hr4 _ ⟨h.l1, h.l2, h.l7, h.l8, congrArg _ hov'.symm, h.l10, h.l11, h.l12, h.l13, h.l14⟩
            | true =>
              rw [Bool.true_and] at hov'
              conv => whnf
              generalize hx : ev (C G) _ (Operand.tmp 13) = x
              obtain rfl := hx.symm.trans h.l13
              clear hx
              conv => whnf
              refine (hn e _).mono ?_
              rintro o' T2 ⟨rfl, rfl⟩
              conv => whnf
              exact hr4 _ ⟨h.l1, h.l2, h.l7, h.l8, congrArg _ hov'.symm, h.l10, h.l11, h.l12, h.l13, h.l14⟩
        conv => whnf
        generalize hx : ev (C G) _ (Operand.tmp 13) = x
        obtain rfl := hx.symm.trans h.l13
        clear hx
        conv => whnf
        refine (hn e _).mono ?_
        rintro o' T2 ⟨rfl, rfl⟩
        by_cases he : e = 0
        · subst he
          conv => whnf
          generalize hx : ev (C G) _ (Operand.tmp 14) = x
          obtain rfl := hx.symm.trans h.l14
          clear hx
          conv => whnf
          cases adds with
          | false =>
            conv => whnf
            exact hr3 _ ⟨h.l1, h.l2, h.l7, h.l8.trans (congrArg _ (hP.noadd (.inr rfl)).symm), h.l9, h.l10, h.l11, h.l12, h.l13, h.l14⟩
          | true =>
            obtain ⟨rfl, hnx'⟩ := hP.add rfl rfl
            conv => whnf
            generalize hx : ev (C G) _ (Operand.tmp 12) = x
            obtain rfl := hx.symm.trans h.l12
            clear hx
            conv => whnf
            generalize hx : ev (C G) _ (Operand.tmp 8) = x
            obtain rfl := hx.symm.trans h.l8
            clear hx
            conv => whnf
            rw [show (w.next != w.next) = false from bne_self_eq_false _]
            conv => whnf
            generalize hx : ev (C G) _ (Operand.tmp 8) = x
            obtain rfl := hx.symm.trans h.l8
            clear hx
            conv => whnf
            exact hr3 _ ⟨h.l1, h.l2, h.l7, congrArg _ ((wrap_i64 (by have := hnx.1; omega) (by have := hnx.2; omega)).trans hnx'.symm), h.l9, h.l10, h.l11, h.l12, h.l13, h.l14⟩
        · conv => whnf
          rw [show (e == 0) = false from by simpa using he]
          conv => whnf
          exact hr3 _ ⟨h.l1, h.l2, h.l7, h.l8.trans (congrArg _ (hP.noadd (.inl he)).symm), h.l9, h.l10, h.l11, h.l12, h.l13, h.l14⟩
      conv => whnf
      generalize hx : ev (C G) _ (Operand.tmp 9) = x
      obtain rfl := hx.symm.trans h.l9
      clear hx
      conv => whnf
      cases hov : w.over with
      | true =>
        obtain rfl : e = 161 := hP.over1 hov
        obtain rfl : n = 0 := hP.n0 (by decide)
        conv => whnf
        generalize hx : ev (C G) _ (Operand.tmp 13) = x
        obtain rfl := hx.symm.trans h.l13
        clear hx
        conv => whnf
        refine (hn 161 _).mono ?_
        rintro o' T2 ⟨rfl, rfl⟩
        conv => whnf
        generalize hx : ev (C G) _ (Operand.tmp 13) = x
        obtain rfl := hx.symm.trans h.l13
        clear hx
        conv => whnf
        refine (hn 161 _).mono ?_
        rintro o' T2 ⟨rfl, rfl⟩
        conv => whnf
        generalize hx : ev (C G) _ (Operand.tmp 12) = x
        obtain rfl := hx.symm.trans h.l12
        clear hx
        conv => whnf
        exact hr2 _ ⟨h.l1, h.l2, h.l7, h.l8, h.l9, h.l10, h.l11, h.l12, h.l13, h.l14⟩
      | false =>
        by_cases he : e = 0
        · subst he
          conv => whnf
          generalize hx : ev (C G) _ (Operand.tmp 13) = x
          obtain rfl := hx.symm.trans h.l13
          clear hx
          conv => whnf
          refine (hn 0 _).mono ?_
          rintro o' T2 ⟨rfl, rfl⟩
          conv => whnf
          exact hr2 _ ⟨h.l1, h.l2, h.l7, h.l8, h.l9, h.l10, h.l11, h.l12, h.l13, h.l14⟩
        · obtain rfl : n = 0 := hP.n0 he
          conv => whnf
          generalize hx : ev (C G) _ (Operand.tmp 13) = x
          obtain rfl := hx.symm.trans h.l13
          clear hx
          conv => whnf
          refine (hn e _).mono ?_
          rintro o' T2 ⟨rfl, rfl⟩
          conv => whnf
          rw [show (e != 0) = true from by simpa using he]
          conv => whnf
          generalize hx : ev (C G) _ (Operand.tmp 12) = x
          obtain rfl := hx.symm.trans h.l12
          clear hx
          conv => whnf
          exact hr2 _ ⟨h.l1, h.l2, h.l7, h.l8, h.l9, h.l10, h.l11, h.l12, h.l13, h.l14⟩
    have hsk := hI.skip hlt
    have hci' : costO o ≤ 20000 := by omega
    clear hst
    conv => whnf
    refine ⟨_, _, q11, ?_⟩
    conv => whnf
    cases hk1 : (o.kind == 1) with
    | true =>
      have hk' : o.kind = 1 := by simpa using hk1
      have hs := (small_row 4 o.ps o.bound o.l hii.ps hii.l (c := costO o) (by unfold costO; omega) (by omega))
      have hs := hs.mono (show _ ≤ 70 * costO o + 2500 by omega)
      have hf := fits_of (w := w) hs (by omega) (by omega) (by omega)
      conv => whnf
      refine ⟨_, _, q11, ?_⟩
      conv => whnf
      refine ⟨_, _, q11, ?_⟩
      conv => whnf
      refine (Rup_ok hG hA hLo o.ps o.bound o.l hii.l (by unfold costO at hci'; omega) hf hnx).mono ?_
      rintro o' T1 ⟨rfl, hL'⟩
      conv => whnf
      exact hrest _ T1 _ _ true false _ ⟨rfl, rfl, rfl, rfl, rfl, rfl, rfl, rfl, rfl, rfl⟩ (by rw [hk']; rfl) hL' (playOk_adds w hs true)
    | false =>
      conv => whnf
      cases hk2 : (o.kind == 2) with
      | true =>
        have hk' : o.kind = 2 := by simpa using hk2
        have hs := (small_pol o.ops hii.ops (c := costO o) (by unfold costO; omega) hci')
        have hs := hs.mono (show _ ≤ 70 * costO o + 2500 by omega)
        have hf := fits_of (w := w) hs (by omega) (by omega) (by omega)
        conv => whnf
        refine ⟨_, _, q11, ?_⟩
        conv => whnf
        refine (Pol_ok hG hA hLo o.ops hf hnx).mono ?_
        rintro o' T1 ⟨rfl, hL'⟩
        conv => whnf
        exact hrest _ T1 _ _ true false _ ⟨rfl, rfl, rfl, rfl, rfl, rfl, rfl, rfl, rfl, rfl⟩ (by rw [hk']; rfl) hL' (playOk_adds w hs true)
      | false =>
        conv => whnf
        cases hk3 : (o.kind == 3) with
        | true =>
          have hk' : o.kind = 3 := by simpa using hk3
          have hs := (small_lits 5 o.l hii.l (c := costO o) (by unfold costO; omega) hci')
          have hs := hs.mono (show _ ≤ 70 * costO o + 2500 by omega)
          have hf := fits_of (w := w) hs (by omega) (by omega) (by omega)
          conv => whnf
          refine ⟨_, _, q11, ?_⟩
          conv => whnf
          refine (Soli_ok hG hA hLo o.l hf hnx).mono ?_
          rintro o' T1 ⟨rfl, hL'⟩
          conv => whnf
          exact hrest _ T1 _ _ w.goal false _ ⟨rfl, rfl, rfl, rfl, rfl, rfl, rfl, rfl, rfl, congrArg AV.bool hI.goal.symm⟩ (by rw [hk']; rfl) hL' (playOk_adds w hs w.goal)
        | false =>
          conv => whnf
          cases hk9 : (o.kind == 9) with
          | true =>
            have hk' : o.kind = 9 := by simpa using hk9
            have hs := (small_lits 11 o.l hii.l (c := costO o) (by unfold costO; omega) hci')
            have hs := hs.mono (show _ ≤ 70 * costO o + 2500 by omega)
            have hf := fits_of (w := w) hs (by omega) (by omega) (by omega)
            conv => whnf
            refine ⟨_, _, q11, ?_⟩
            conv => whnf
            refine (Solx_ok hG hA hLo o.l hf hnx).mono ?_
            rintro o' T1 ⟨rfl, hL'⟩
            conv => whnf
            exact hrest _ T1 _ _ true false _ ⟨rfl, rfl, rfl, rfl, rfl, rfl, rfl, rfl, rfl, rfl⟩ (by rw [hk']; rfl) hL' (playOk_adds w hs true)
          | false =>
            conv => whnf
            cases hk10 : (o.kind == 10) with
            | true =>
              have hk' : o.kind = 10 := by simpa using hk10
              have hs := (small_row 12 o.ps o.bound [o.a] hii.ps (by simpa using hii.a) (c := costO o + 1) (by unfold costO; simp only [List.length_cons, List.length_nil]; omega) (by omega))
              have hs := hs.mono (show _ ≤ 70 * costO o + 2500 by omega)
              have hf := fits_of (w := w) hs (by omega) (by omega) (by omega)
              conv => whnf
              refine ⟨_, _, q11, ?_⟩
              conv => whnf
              refine ⟨_, _, q11, ?_⟩
              conv => whnf
              refine (Same_w_ok hG hA hLo o.a hii.a o.ps o.bound hf).mono ?_
              rintro o' T1 ⟨rfl, hL'⟩
              conv => whnf
              exact hrest _ T1 _ _ false false _ ⟨rfl, rfl, rfl, rfl, rfl, rfl, rfl, rfl, rfl, rfl⟩ (by rw [hk']; rfl) hL' (playOk_lay w hs)
            | false =>
              conv => whnf
              cases hk4 : (o.kind == 4) with
              | true =>
                have hk' : o.kind = 4 := by simpa using hk4
                have hs := (small_del o.l hii.l (c := costO o) (by unfold costO; omega) hci')
                have hs := hs.mono (show _ ≤ 70 * costO o + 2500 by omega)
                have hf := fits_of (w := w) hs (by omega) (by omega) (by omega)
                conv => whnf
                refine ⟨_, _, q11, ?_⟩
                conv => whnf
                refine (Del_ok hG hA hLo o.l hii.l (by unfold costO at hci'; omega) hf).mono ?_
                rintro o' T1 ⟨rfl, hL'⟩
                conv => whnf
                exact hrest _ T1 _ _ false false _ ⟨rfl, rfl, rfl, rfl, rfl, rfl, rfl, rfl, rfl, rfl⟩ (by rw [hk']; rfl) hL' (playOk_lay w hs)
              | false =>
                conv => whnf
                cases hk5 : (o.kind == 5) with
                | true =>
                  have hk' : o.kind = 5 := by simpa using hk5
                  have hs := (small_kind 7)
                  have hs := hs.mono (show _ ≤ 70 * costO o + 2500 by omega)
                  have hf := fits_of (w := w) hs (by omega) (by omega) (by omega)
                  conv => whnf
                  refine (Note_ok hG hA hLo hf).mono ?_
                  rintro o' T1 ⟨rfl, hL'⟩
                  conv => whnf
                  exact hrest _ T1 _ _ false false _ ⟨rfl, rfl, rfl, rfl, rfl, rfl, rfl, rfl, rfl, rfl⟩ (by rw [hk']; rfl) hL' (playOk_lay w hs)
                | false =>
                  conv => whnf
                  cases hk6 : (o.kind == 6) with
                  | true =>
                    have hk' : o.kind = 6 := by simpa using hk6
                    conv => whnf
                    refine ⟨_, _, q11, ?_⟩
                    conv => whnf
                    refine ⟨_, _, q11, ?_⟩
                    conv => whnf
                    refine ⟨_, _, q11, ?_⟩
                    conv => whnf
                    refine ⟨_, _, q11, ?_⟩
                    conv => whnf
                    refine (End_ok hG hA hLo o.a o.b o.c o.d hii.b hii.c hii.d hl1 hl2).mono ?_
                    rintro o' T1 ⟨rfl, hL'⟩
                    conv => whnf
                    exact hrest _ T1 _ _ false true _ ⟨rfl, rfl, rfl, rfl, rfl, rfl, rfl, rfl, rfl, rfl⟩ (by rw [hk']; rfl) hL' (playOk_end w o.a o.b o.c o.d hii.b hii.c hii.d (by omega))
                  | false =>
                    conv => whnf
                    conv => whnf
                    refine hQ5 _ _ _ (by simp) ?_
                    conv => whnf
                    refine hK3 _ _ ?_
                    conv => whnf
                    have w1 : IntKind.i64.wrap ((i : Int) + 1) = ((i + 1 : Nat) : Int) := wrap_nat (by omega)
                    exact ⟨(i + 1, w), ⟨rfl, ⟨rfl, rfl⟩, rfl, rfl, rfl, congrArg _ w1, trivial⟩, ⟨_, St.leW_refl _, hLo.down hleT, hsk⟩, by show l.length - (i + 1) < l.length - i; omega⟩
  · have hlt : ¬ i < l.length := by have := of_decide_eq_false hlt; rw [rowsC_len] at this; omega
    conv => whnf
    refine hQ1 _ _ _ (by simp) ?_
    clear hK1 hQ1 K1
    conv => whnf
    refine hK _ _ ?_
    clear hK hQ K
    conv => whnf
    obtain ⟨_, _, hL⟩ := hL
    exact ⟨_, _, ⟨rfl, rfl⟩, hL.le, AV.leS_refl _ _ _⟩
end Go.Proofs.YtcpdgnkhkdddhaaGreatDoor.Aw

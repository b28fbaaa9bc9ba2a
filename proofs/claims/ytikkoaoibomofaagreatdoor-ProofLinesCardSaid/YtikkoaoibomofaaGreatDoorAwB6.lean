/-
  Hallmarkkept's Book: lists of strings: markTexts.
-/
import Derived.Test.YtikkoaoibomofaaGreatDoorAwB5
set_option maxRecDepth 100000
set_option linter.unusedVariables false
set_option linter.unusedSimpArgs false
namespace Go.Proofs.YtikkoaoibomofaaGreatDoor.Aw
open Go Go.RowKit
variable {G : Nat → Option (List AV)}

/-- What is known between two rounds of markTexts. -/
structure MarkO (S₀ : St) (bk : Nat) (B : BookA) (W : List WE) (O : List OE) (rest₀ : List (Nat × Own)) (M : Nat) (j : Nat) (k : KL) (W' : List WE) (O' : List OE) (F' : List FE) (rest : List (Nat × Own)) (S : St) : Prop where
  st : BkS S₀ strsT bk { B with texts := k.kind }.cells k rest S
  data : KData k W' O' F'
  le : j ≤ W.length
  sees : SeesT O' rest
  todo : ∀ w ∈ W.drop j, (w.it.b, w.it.own) ∈ rest ∧ ∀ o ∈ O', o.b ≠ w.it.b
  held : ∀ w ∈ W', w ∈ W ∧ (w.it.b, w.it.own) ∈ rest ∧ ∀ o ∈ O', o.b ≠ w.it.b
  fresh : ∀ f ∈ F', (f.it.b, f.it.own) ∈ rest ∧ f.it.Ok ∧ f.it.l.length ≤ M ∧ ∀ o ∈ O', o.b = f.it.b → o.l.length ≤ f.it.l.length
  perm : (W'.map (·.it.b) ++ F'.map (·.it.b)).Perm ((W.take j).map (·.it.b))
  kept : ∀ c p, (c, p) ∈ rest₀ → (∀ w ∈ W, c ≠ w.it.b) → (c, p) ∈ rest
  len : O'.length = O.length + F'.length
  most : ∀ o ∈ O', o.l.length ≤ M + 30
def BookA.unbad (B : BookA) (nw : Bool) : BookA := { B with now := nw, bad := false }
theorem BookA.unbad_eq (B : BookA) (h : B.bad = false) : B.unbad B.now = B := by cases B; cases h; rfl
theorem MarkO.count {S₀ : St} {bk : Nat} {B : BookA} {W : List WE} {O : List OE} {rest₀ : List (Nat × Own)} {M j : Nat} {k : KL} {W' : List WE} {O' : List OE} {F' : List FE} {rest : List (Nat × Own)} {S : St} (h : MarkO S₀ bk B W O rest₀ M j k W' O' F' rest S) : W'.length + F'.length = j := by
  have := h.perm.length_eq
  simp at this
  have := h.le
  omega
set_option maxHeartbeats 2000000 in
theorem markTexts_late (hG : G10 G) (S₀ : St) (bk : Nat) (B : BookA) (k : KL) (rest : List (Nat × Own)) (S : St) (W : List WE) (O : List OE) (M : Nat) (hM : M ≤ 1000000000) (hO : O.length + W.length ≤ 1000000000) (hnd : (W.map (·.it.b)).Nodup)
    (st : BkS S₀ strsT bk { (B.unbad false) with texts := k.kind }.cells k rest S) (data : KData k W O []) (sees : SeesT O rest) (todo : ∀ w ∈ W, (w.it.b, w.it.own) ∈ rest ∧ w.it.Ok ∧ w.it.l.length ≤ M ∧ ∀ o ∈ O, o.b ≠ w.it.b) (most : ∀ o ∈ O, o.l.length ≤ M + 30) :
    Triple P (C G) 49 [.ref bk 0] S fun o S' => o = .ret (.tu []) ∧ ∃ k' W' O' F' rest', MarkO S₀ bk (B.unbad false) W O rest M W.length k' W' O' F' rest' S' := by
  refine triple_of_awp (hT G) hm Tryz.func49 rfl (by decide +kernel) rfl (by decide +kernel) (by show 1 ≤ _; decide +kernel) rfl ?_
  have hb := st.book
  conv => whnf
  refine ⟨_, _, hb, ?_⟩
  conv => whnf
  refine ⟨_, _, hb, ?_⟩
  conv => whnf
  refine ⟨_, _, hb, ?_⟩
  conv => whnf
  refine ⟨_, _, hb, ?_⟩
  conv => whnf
  intro hlen
  conv => whnf
  refine split_of (fun h0 => ?_) (fun h0 => ?_)
  · have hW0 : W = [] := by
      have h1 : k.waits.es.length = W.length := by rw [data.waits]; simp
      have h2 := of_decide_eq_true h0
      simp at h2
      rw [h2] at h1
      exact List.length_eq_zero_iff.1 h1.symm
    subst hW0
    conv => whnf
    exact ⟨_, _, ⟨rfl, k, [], O, [], rest, ⟨st, data, by simp, sees, by simp, by simp, by simp, by simp, fun c p h _ => h, by simp, most⟩⟩, St.le_refl _, AV.leS_refl _ _ _⟩
  · conv => whnf
    refine ⟨_, _, hb, ?_⟩
    rw [forceL_eq]
    conv => whnf
    have s1 := st.store (setRange { (B.unbad false) with texts := k.kind }.cells (0 + 15) [AV.nils])
    refine ⟨_, _, s1.book, ?_⟩
    rw [forceL_eq]
    conv => whnf
    have s2 := s1.store (setRange (setRange { (B.unbad false) with texts := k.kind }.cells (0 + 15) [AV.nils]) (0 + 16) [AV.nils])
    refine ⟨_, _, s2.book, ?_⟩
    rw [forceL_eq]
    conv => whnf
    have s3 := s2.store (setRange (setRange (setRange { (B.unbad false) with texts := k.kind }.cells (0 + 15) [AV.nils]) (0 + 16) [AV.nils]) (0 + 18) [AV.nils])
    refine ⟨_, _, s3.book, ?_⟩
    rw [forceL_eq]
    conv => whnf
    have s4 := (s3.store (setRange (setRange (setRange (setRange { (B.unbad false) with texts := k.kind }.cells (0 + 15) [AV.nils]) (0 + 16) [AV.nils]) (0 + 18) [AV.nils]) (0 + 19) [AV.nils])).clear_waits.clear_note.clear_mark.clear_due
    have hl := (B.unbad false).leL_texts (K := { k.kind with waits := .nils, note := .nils, mark := .nils, due := .nils }) (K' := ({ k with waits := .empty, note := .empty, mark := .empty, due := .empty } : KL).kind) ⟨AV.le_refl _, AV.le_refl _, rfl, rfl, AV.le_refl _, rfl, rfl, AV.le_refl _, AV.le_refl _, trivial⟩
    have s5 := s4.weak hl
    refine ⟨⟨Nat × KL × List WE × List OE × List FE × List (Nat × Own), fun (j, _) => [(0, .ref bk 0), (2, k.waits.av), (3, k.note.av), (4, k.mark.av), (5, k.due.av), (6, .int .i64 (j : Int))], fun (j, k', W', O', F', rest') S' => MarkO S₀ bk (B.unbad false) W O rest M j k' W' O' F' rest' S', fun (j, _) => W.length - j⟩,
      ⟨(0, { k with waits := .empty, note := .empty, mark := .empty, due := .empty }, [], O, [], _), ⟨rfl, AV.le_refl _, AV.le_refl _, AV.le_refl _, AV.le_refl _, rfl, trivial⟩, _, s5.1, ⟨s5.2, ⟨rfl, rfl, rfl, rfl, data.out, data.told, data.fresh, data.from_⟩, by simp, sees.mono (by simp +contextual), fun w hw => ⟨by simp [(todo w hw).1], (todo w hw).2.2.2⟩, by simp, by simp, by simp, fun c p q1 _ => by simp [q1], by simp, most⟩⟩, ?_⟩
    rintro ⟨(j : Nat), (k' : KL), (W' : List WE), (O' : List OE), (F' : List FE), (rest' : List (Nat × Own))⟩ S₁ (h : MarkO S₀ bk (B.unbad false) W O rest M j k' W' O' F' rest' S₁)
    have hb := h.st.book
    have hcount := h.count
    conv => whnf
    intro hlen1
    conv => whnf
    refine split_of (fun hlt => ?_) (fun hlt => ?_)
    · have hlt : j < W.length := by
        have : k.waits.es.length = W.length := by rw [data.waits]; simp
        have := of_decide_eq_true hlt
        omega
      have w1 : IntKind.i64.wrap ((j : Int) + 1) = ((j + 1 : Nat) : Int) := wrap_nat (by omega)
      obtain ⟨t1, t4⟩ := h.todo W[j] (by rw [List.mem_iff_getElem?]; exact ⟨0, by simp [hlt]⟩)
      obtain ⟨_, t2, t3, _⟩ := todo W[j] (List.getElem_mem hlt)
      have htake : (W.take (j + 1)).map (·.it.b) = (W.take j).map (·.it.b) ++ [W[j].it.b] := by rw [List.take_succ_eq_append_getElem hlt, List.map_append]; rfl
      conv => whnf
      refine ⟨[W[j].it.hdr], ⟨by omega, by rw [data.waits]; simp [hlt]⟩, ?_⟩
      conv => whnf
      refine ⟨[.int .i64 W[j].mark], ⟨by omega, by rw [data.mark]; simp [hlt]⟩, ?_⟩
      conv => whnf
      refine ⟨[], (.free 0 (.free 1 (.free 2 (.free 3 (.free 4 (.free 5 (.free 6 (.free 7 (.free 8 .done))))))))), _, by decide +kernel, ?_, fun _ _ h => ⟨_, .inl rfl, h⟩⟩
      conv => whnf
      refine ⟨[.int .i64 W[j].due], ⟨by omega, by rw [data.due]; simp [hlt]⟩, ?_⟩
      conv => whnf
      refine ⟨_, _, hb, ?_⟩
      conv => whnf
      refine split_of (fun hdue => ?_) (fun hdue => ?_)
      · conv => whnf
        refine ⟨_, _, hb, ?_⟩
        conv => whnf
        intro b1 hb1
        conv => whnf
        have s1 := h.st.new hb1 (.tip strsT 1 1)
        refine ⟨⟨fun hn => s1.tip_waits hn, by show (_ + 1) * 24 ≤ _; rw [h.data.waits]; simp; omega⟩, ?_⟩
        conv => whnf
        intro S₂ e2 e2' b2 hb2
        have s2 := s1.push_waits e2 e2' hb2 W[j].it.hdr (n := k'.waits.es.length + 1) rfl
        conv => whnf
        refine ⟨_, _, s2.book, ?_⟩
        rw [forceL_eq]
        conv => whnf
        have s3 := s2.store (setRange { (B.unbad false) with texts := k'.kind }.cells (0 + 15) (cellsOf (AV.sl (Sh.acc b2) 1 (k'.waits.es ++ [[W[j].it.hdr]]))))
        refine ⟨[], (.free 0 (.free 1 (.free 2 (.free 3 (.free 4 (.free 5 (.free 6 (.free 7 (.free 8 (.one 9 (.one 10 (.free 11 (.free 12 (.one 13 .done .none))) .none) .none)))))))))), _, by decide +kernel, ?_, fun _ _ h => ⟨_, .inl rfl, h⟩⟩
        conv => whnf
        refine ⟨_, _, s3.book, ?_⟩
        conv => whnf
        refine ⟨[.sl (.own W[j].note) 1 (rowsS W[j].it.l)], ⟨by omega, by rw [data.note]; simp [hlt]⟩, ?_⟩
        conv => whnf
        intro b3 hb3
        conv => whnf
        have s4 := s3.new hb3 (.tip strsT 1 1)
        refine ⟨⟨fun hn => s4.tip_note hn, by show (_ + 1) * 24 ≤ _; rw [h.data.note]; simp; omega⟩, ?_⟩
        conv => whnf
        intro S₃ e3 e3' b4 hb4
        have s5 := s4.push_note e3 e3' hb4 (.sl (.own W[j].note) 1 (rowsS W[j].it.l)) (n := k'.note.es.length + 1) rfl
        conv => whnf
        refine ⟨_, _, s5.book, ?_⟩
        rw [forceL_eq]
        conv => whnf
        have s6 := s5.store (setRange (setRange { (B.unbad false) with texts := k'.kind }.cells (0 + 15) (cellsOf (AV.sl (Sh.acc b2) 1 (k'.waits.es ++ [[W[j].it.hdr]])))) (0 + 16) (cellsOf (AV.sl (Sh.acc b4) 1 (k'.note.es ++ [[AV.sl (.own W[j].note) 1 (rowsS W[j].it.l)]]))))
        refine ⟨_, _, s6.book, ?_⟩
        conv => whnf
        intro b5 hb5
        conv => whnf
        have s7 := s6.new hb5 (.tip intT 1 1)
        refine ⟨⟨fun hn => s7.tip_mark hn, by show (_ + 1) * 8 ≤ _; rw [h.data.mark]; simp; omega⟩, ?_⟩
        conv => whnf
        intro S₄ e4 e4' b6 hb6
        have s8 := s7.push_mark e4 e4' hb6 (.int .i64 W[j].mark) (n := k'.mark.es.length + 1) rfl
        conv => whnf
        refine ⟨_, _, s8.book, ?_⟩
        rw [forceL_eq]
        conv => whnf
        have s9 := s8.store (setRange (setRange (setRange { (B.unbad false) with texts := k'.kind }.cells (0 + 15) (cellsOf (AV.sl (Sh.acc b2) 1 (k'.waits.es ++ [[W[j].it.hdr]])))) (0 + 16) (cellsOf (AV.sl (Sh.acc b4) 1 (k'.note.es ++ [[AV.sl (.own W[j].note) 1 (rowsS W[j].it.l)]])))) (0 + 18) (cellsOf (AV.sl (Sh.acc b6) 1 (k'.mark.es ++ [[AV.int .i64 W[j].mark]]))))
        refine ⟨[], (.free 0 (.free 1 (.free 2 (.free 3 (.free 4 (.free 5 (.free 6 (.free 7 (.free 8 (.one 9 (.one 10 (.free 11 (.free 12 (.one 13 .done .none))) .none) .none)))))))))), _, by decide +kernel, ?_, fun _ _ h => ⟨_, .inl rfl, h⟩⟩
        conv => whnf
        refine ⟨_, _, s9.book, ?_⟩
        conv => whnf
        refine ⟨[.int .i64 W[j].due], ⟨by omega, by rw [data.due]; simp [hlt]⟩, ?_⟩
        conv => whnf
        intro b7 hb7
        conv => whnf
        have s10 := s9.new hb7 (.tip intT 1 1)
        refine ⟨⟨fun hn => s10.tip_due hn, by show (_ + 1) * 8 ≤ _; rw [h.data.due]; simp; omega⟩, ?_⟩
        conv => whnf
        intro S₅ e5 e5' b8 hb8
        have s11 := s10.push_due e5 e5' hb8 (.int .i64 W[j].due) (n := k'.due.es.length + 1) rfl
        conv => whnf
        refine ⟨_, _, s11.book, ?_⟩
        rw [forceL_eq]
        conv => whnf
        have s12 := s11.store (setRange (setRange (setRange (setRange { (B.unbad false) with texts := k'.kind }.cells (0 + 15) (cellsOf (AV.sl (Sh.acc b2) 1 (k'.waits.es ++ [[W[j].it.hdr]])))) (0 + 16) (cellsOf (AV.sl (Sh.acc b4) 1 (k'.note.es ++ [[AV.sl (.own W[j].note) 1 (rowsS W[j].it.l)]])))) (0 + 18) (cellsOf (AV.sl (Sh.acc b6) 1 (k'.mark.es ++ [[AV.int .i64 W[j].mark]])))) (0 + 19) (cellsOf (AV.sl (Sh.acc b8) 1 (k'.due.es ++ [[AV.int .i64 W[j].due]]))))
        refine ⟨(j + 1, { k' with waits := k'.waits.push b2 W[j].it.hdr, note := k'.note.push b4 (.sl (.own W[j].note) 1 (rowsS W[j].it.l)), mark := k'.mark.push b6 (.int .i64 W[j].mark), due := k'.due.push b8 (.int .i64 W[j].due) }, W' ++ [W[j]], O', F', _), ⟨rfl, AV.le_refl _, AV.le_refl _, AV.le_refl _, AV.le_refl _, congrArg _ w1, trivial⟩,
          ⟨_, St.leW_refl _, s12, ?_, hlt, h.sees.mono (by simp +contextual), fun w hw => ?_, fun w hw => ?_, fun f hf => ?_, ?_, fun c p q1 q2 => by simp [h.kept c p q1 q2], h.len, h.most⟩, by show W.length - (j + 1) < W.length - j; omega⟩
        · obtain ⟨d1, d2, d3, d4, d5, d6, d7, d8⟩ := h.data
          exact ⟨by simp [AccL.push, d1], by simp [AccL.push, d2], by simp [AccL.push, d3], by simp [AccL.push, d4], d5, d6, d7, d8⟩
        · obtain ⟨q1, q2⟩ := h.todo w (by
            rw [List.drop_eq_getElem_cons hlt]
            exact List.mem_cons_of_mem _ hw)
          exact ⟨by simp [q1], q2⟩
        · rcases List.mem_append.1 hw with hw | hw
          · obtain ⟨q1, q2, q3⟩ := h.held w hw
            exact ⟨q1, by simp [q2], q3⟩
          · simp only [List.mem_singleton] at hw
            subst hw
            exact ⟨List.getElem_mem hlt, by simp [t1], t4⟩
        · obtain ⟨q1, q2, q3, q4⟩ := h.fresh f hf
          exact ⟨by simp [q1], q2, q3, q4⟩
        · rw [htake, List.map_append, List.append_assoc]
          refine List.Perm.trans (List.Perm.append_left _ List.perm_append_comm) ?_
          rw [← List.append_assoc]
          exact List.Perm.append_right _ h.perm
      · conv => whnf
        refine ⟨_, _, hb, ?_⟩
        conv => whnf
        refine ⟨_, _, hb, ?_⟩
        conv => whnf
        refine ⟨[.sl (.own W[j].note) 1 (rowsS W[j].it.l)], ⟨by omega, by rw [data.note]; simp [hlt]⟩, ?_⟩
        conv => whnf
        refine Triple.use (sameTexts_ok W[j].it.b W[j].it.cap W[j].it.l W[j].it.junk (by omega) S₁ (h.st.get t1)) (by exact ⟨rfl, ⟨rfl, rfl⟩, trivial⟩) ?_
        rintro o S' ⟨rfl, rfl⟩
        conv => whnf
        refine ⟨_, _, hb, ?_⟩
        rw [forceL_eq]
        conv => whnf
        have u1 := h.st.store (setRange { (B.unbad false) with texts := k'.kind }.cells (0 + 1) [AV.bool false])
        refine ⟨⟨Nat × List ByteArray × List (Nat × Own), fun (i, m, r) => [(0, .ref bk 0), (2, k.waits.av), (3, k.note.av), (4, k.mark.av), (5, k.due.av), (6, .int .i64 (j : Int)), (7, W[j].it.hdr), (8, .int .i64 W[j].mark), (9, .int .i64 (i : Int))],
          fun (i, m, r) S' => BkS S₀ strsT bk { (B.unbad false) with texts := k'.kind }.cells k' r S' ∧ (W[j].it.b, .obj strT (m.map AV.str ++ W[j].it.junk)) ∈ r ∧ m.length = W[j].it.l.length ∧ (∀ c p, (c, p) ∈ rest' → c ≠ W[j].it.b → (c, p) ∈ r) ∧ i ≤ m.length, fun (i, _) => W[j].it.l.length - i⟩,
          ⟨(0, W[j].it.l, rest'), ⟨rfl, AV.le_refl _, AV.le_refl _, AV.le_refl _, AV.le_refl _, rfl, AV.le_refl _, rfl, rfl, trivial⟩, _, St.leW_refl _, u1, t1, rfl, fun _ _ q _ => q, by omega⟩, ?_⟩
        rintro ⟨(i : Nat), (m : List ByteArray), (r : List (Nat × Own))⟩ S₂ ⟨v1, v2, v3, v4, v5⟩
        conv => whnf
        refine split_of (fun hlt2 => ?_) (fun hlt2 => ?_)
        · have hlt2 : i < W[j].it.l.length := by have := of_decide_eq_true hlt2; omega
          have w2 : IntKind.i64.wrap ((i : Int) + 1) = ((i + 1 : Nat) : Int) := wrap_nat (by omega)
          conv => whnf
          refine (itoa_some hG _ (wrap_lo _) (wrap_hi _) _).mono ?_
          rintro o S' ⟨v, rfl, rfl⟩
          conv => whnf
          refine ⟨⟨by omega, by omega⟩, ?_⟩
          conv => whnf
          refine ⟨_, _, v1.get v2, (when_iff _ _).2 ⟨by show Nat.ble (0 + (i : Int).toNat * 1 + 1) _ = true; simp; omega, ?_⟩⟩
          rw [forceL_eq]
          conv => whnf
          obtain ⟨r', q1, q2, q3⟩ := v1.itemSet v2 (.obj strT (setRange (m.map AV.str ++ W[j].it.junk) (0 + (i : Int).toNat * 1) [AV.str v]))
          have e1 : setRange (m.map AV.str ++ W[j].it.junk) (0 + (i : Int).toNat * 1) [AV.str v] = (m.set i v).map AV.str ++ W[j].it.junk := by
            show (m.map AV.str ++ W[j].it.junk).set _ _ = _
            rw [show 0 + (i : Int).toNat * 1 = i by omega, List.set_append_left _ _ (by simp; omega), List.map_set]
          rw [e1] at q2
          exact ⟨(i + 1, m.set i v, r'), ⟨rfl, AV.le_refl _, AV.le_refl _, AV.le_refl _, AV.le_refl _, rfl, AV.le_refl _, rfl, congrArg _ w2, trivial⟩, ⟨_, St.leW_refl _, q1, q2, by simp [v3], fun c p z1 z2 => q3 c p (v4 c p z1 z2) z2, by simp; omega⟩, by show W[j].it.l.length - (i + 1) < W[j].it.l.length - i; omega⟩
        · have hi : i = m.length := by have := of_decide_eq_false hlt2; omega
          have hjk := t2.room
          have hjm := t2.max
          conv => whnf
          refine ⟨_, _, v1.book, ?_⟩
          conv => whnf
          intro b1 hb1
          conv => whnf
          have s1 := v1.new hb1 (.tip strsT 1 1)
          refine ⟨⟨fun hn => s1.tip_out hn, by show (_ + 1) * 24 ≤ _; rw [h.data.out]; simp [h.len]; omega⟩, ?_⟩
          conv => whnf
          intro S₃ e3 e3' b2 hb2
          have s2 := s1.push_out e3 e3' hb2 (AV.arr W[j].it.b 0 W[j].it.l.length W[j].it.cap) (n := k'.out.es.length + 1) rfl
          conv => whnf
          refine ⟨_, _, s2.book, ?_⟩
          rw [forceL_eq]
          conv => whnf
          refine ⟨[], (.free 0 (.free 1 (.free 2 (.free 3 (.free 4 (.free 6 (.one 5 (.one 7 (.one 8 (.one 9 (.free 10 (.free 11 (.one 12 .done .none))) .none) .none) .none) .none))))))), _, by decide +kernel, ?_, fun _ _ h => ⟨_, .inl rfl, h⟩⟩
          conv => whnf
          have s3 := s2.store (setRange { (B.unbad false) with texts := k'.kind }.cells (0 + 13) (cellsOf (AV.sl (Sh.acc b2) 1 (k'.out.es ++ [[AV.arr W[j].it.b 0 W[j].it.l.length W[j].it.cap]]))))
          refine ⟨_, _, s3.book, ?_⟩
          conv => whnf
          intro b5 hb5
          conv => whnf
          have s4 := s3.new hb5 (.tip strT 1 0)
          have c2 := s4.get (b := W[j].it.b) (o := .obj strT (m.map AV.str ++ W[j].it.junk)) (by simp [v2])
          refine ⟨_, _, c2, by show 0 + W[j].it.l.length * 1 ≤ _; simp; omega, ?_⟩
          rw [show rowsOf ((C G).T strT).size (List.take (W[j].it.l.length * ((C G).T strT).size) (List.drop 0 (m.map AV.str ++ W[j].it.junk))) W[j].it.l.length = rowsS m from by rw [← v3]; exact rows_pre m _]
          conv => whnf
          refine ⟨⟨St.upd_same _ _ _, by show (0 + _) * 16 ≤ _; rw [rowsS_len]; omega⟩, ?_⟩
          conv => whnf
          intro b6 hb6
          rw [St.del_upd hb5] at hb6 ⊢
          have s5 := s3.new hb6 (.tip strT 1 (0 + (rowsS m).length))
          conv => whnf
          intro b7 hb7
          conv => whnf
          have s6 := s5.new hb7 (.tip strsT 1 1)
          refine ⟨⟨fun hn => s6.tip_told hn, by show (_ + 1) * 24 ≤ _; rw [h.data.told]; simp [h.len]; omega⟩, ?_⟩
          conv => whnf
          intro S₄ e4 e4' b8 hb8
          have s7 := s6.push_told e4 e4' hb8 (.sl (.own b6) 1 (rowsS m)) (n := k'.told.es.length + 1) rfl
          conv => whnf
          refine ⟨_, _, s7.book, ?_⟩
          rw [forceL_eq]
          conv => whnf
          have s8 := s7.store (setRange (setRange { (B.unbad false) with texts := k'.kind }.cells (0 + 13) (cellsOf (AV.sl (Sh.acc b2) 1 (k'.out.es ++ [[AV.arr W[j].it.b 0 W[j].it.l.length W[j].it.cap]])))) (0 + 14) (cellsOf (AV.sl (Sh.acc b8) 1 (k'.told.es ++ [[AV.sl (Sh.own b6) 1 (rowsS m)]]))))
          refine ⟨_, _, s8.book, ?_⟩
          conv => whnf
          intro b9 hb9
          conv => whnf
          have s9 := s8.new hb9 (.tip strsT 1 1)
          refine ⟨⟨fun hn => s9.tip_fresh hn, by show (_ + 1) * 24 ≤ _; rw [h.data.fresh]; simp; omega⟩, ?_⟩
          conv => whnf
          intro S₅ e5 e5' b10 hb10
          have s10 := s9.push_fresh e5 e5' hb10 (AV.arr W[j].it.b 0 W[j].it.l.length W[j].it.cap) (n := k'.fresh.es.length + 1) rfl
          conv => whnf
          refine ⟨_, _, s10.book, ?_⟩
          rw [forceL_eq]
          conv => whnf
          have s11 := s10.store (setRange (setRange (setRange { (B.unbad false) with texts := k'.kind }.cells (0 + 13) (cellsOf (AV.sl (Sh.acc b2) 1 (k'.out.es ++ [[AV.arr W[j].it.b 0 W[j].it.l.length W[j].it.cap]])))) (0 + 14) (cellsOf (AV.sl (Sh.acc b8) 1 (k'.told.es ++ [[AV.sl (Sh.own b6) 1 (rowsS m)]])))) (0 + 17) (cellsOf (AV.sl (Sh.acc b10) 1 (k'.fresh.es ++ [[AV.arr W[j].it.b 0 W[j].it.l.length W[j].it.cap]]))))
          refine ⟨_, _, s11.book, ?_⟩
          conv => whnf
          intro b11 hb11
          conv => whnf
          have s12 := s11.new hb11 (.tip intT 1 1)
          refine ⟨⟨fun hn => s12.tip_from_ hn, by show (_ + 1) * 8 ≤ _; rw [h.data.from_]; simp; omega⟩, ?_⟩
          conv => whnf
          intro S₆ e6 e6' b12 hb12
          have s13 := s12.push_from_ e6 e6' hb12 (.int .i64 W[j].mark) (n := k'.from_.es.length + 1) rfl
          conv => whnf
          refine ⟨_, _, s13.book, ?_⟩
          rw [forceL_eq]
          conv => whnf
          have s14 := s13.store (setRange (setRange (setRange (setRange { (B.unbad false) with texts := k'.kind }.cells (0 + 13) (cellsOf (AV.sl (Sh.acc b2) 1 (k'.out.es ++ [[AV.arr W[j].it.b 0 W[j].it.l.length W[j].it.cap]])))) (0 + 14) (cellsOf (AV.sl (Sh.acc b8) 1 (k'.told.es ++ [[AV.sl (Sh.own b6) 1 (rowsS m)]])))) (0 + 17) (cellsOf (AV.sl (Sh.acc b10) 1 (k'.fresh.es ++ [[AV.arr W[j].it.b 0 W[j].it.l.length W[j].it.cap]])))) (0 + 20) (cellsOf (AV.sl (Sh.acc b12) 1 (k'.from_.es ++ [[AV.int .i64 W[j].mark]]))))
          have hdist : ∀ w ∈ W.drop (j + 1), w.it.b ≠ W[j].it.b := fun w hw e => by
            rw [List.mem_iff_getElem?] at hw
            obtain ⟨i, hi⟩ := hw
            rw [List.getElem?_drop] at hi
            have h1 : (W.map (·.it.b))[j + 1 + i]? = some w.it.b := by simp [hi]
            have h2 : (W.map (·.it.b))[j]? = some w.it.b := by simp [hlt, e]
            have hlt2 : j + 1 + i < (W.map (·.it.b)).length := by
              rcases Nat.lt_or_ge (j + 1 + i) (W.map (·.it.b)).length with h | h
              · exact h
              · rw [List.getElem?_eq_none h] at h1; cases h1
            have := (List.getElem?_inj hlt2 hnd).1 (h1.trans h2.symm)
            omega
          have hgone : ∀ b, b ∈ W'.map (·.it.b) ++ F'.map (·.it.b) → b ≠ W[j].it.b := fun b hb' e => by
            have h1 := h.perm.subset hb'
            rw [List.map_take, List.mem_iff_getElem?] at h1
            obtain ⟨i, hi⟩ := h1
            have hij : i < j := by
              rcases Nat.lt_or_ge i j with h | h
              · exact h
              · rw [List.getElem?_eq_none (by simp; omega)] at hi; cases hi
            rw [List.getElem?_take_of_lt hij] at hi
            have h2 : (W.map (·.it.b))[j]? = some b := by simp [hlt, e]
            have := (List.getElem?_inj (by simp; omega) hnd).1 (hi.trans h2.symm)
            omega
          refine ⟨(j + 1, { k' with out := k'.out.push b2 (AV.arr W[j].it.b 0 W[j].it.l.length W[j].it.cap), told := k'.told.push b8 (.sl (.own b6) 1 (rowsS m)), fresh := k'.fresh.push b10 (AV.arr W[j].it.b 0 W[j].it.l.length W[j].it.cap), from_ := k'.from_.push b12 (.int .i64 W[j].mark) }, W', O' ++ [⟨W[j].it.b, W[j].it.cap, m, b6⟩], F' ++ [⟨⟨W[j].it.b, W[j].it.cap, m, W[j].it.junk⟩, W[j].mark⟩], _), ⟨rfl, AV.le_refl _, AV.le_refl _, AV.le_refl _, AV.le_refl _, congrArg _ w1, trivial⟩,
            ⟨_, St.leW_refl _, s14, ?_, hlt, fun o ho => ?_, fun w hw => ?_, fun w hw => ?_, fun f hf => ?_, ?_, fun c p q1 q2 => by simp [v4 c p (h.kept c p q1 q2) (q2 _ (List.getElem_mem hlt))], by simp [h.len]; omega, fun o ho => ?_⟩, by show W.length - (j + 1) < W.length - j; omega⟩
          · obtain ⟨d1, d2, d3, d4, d5, d6, d7, d8⟩ := h.data
            exact ⟨d1, d2, d3, d4, by simp [AccL.push, d5, v3], by simp [AccL.push, d6], by simp [AccL.push, d7, v3, ItT.hdr], by simp [AccL.push, d8]⟩
          · rcases List.mem_append.1 ho with ho | ho
            · obtain ⟨c, z1, z2⟩ := h.sees o ho
              exact ⟨c, by simp [v4 _ _ z1 (t4 o ho)], z2⟩
            · simp only [List.mem_singleton] at ho
              subst ho
              exact ⟨_, by simp [v2], W[j].it.junk, rfl⟩
          · obtain ⟨q1, q2⟩ := h.todo w (by
              rw [List.drop_eq_getElem_cons hlt]
              exact List.mem_cons_of_mem _ hw)
            refine ⟨by simp [v4 _ _ q1 (hdist w hw)], fun o ho => ?_⟩
            rcases List.mem_append.1 ho with ho | ho
            · exact q2 o ho
            · simp only [List.mem_singleton] at ho
              subst ho
              exact fun e => hdist w hw e.symm
          · obtain ⟨q1, q2, q3⟩ := h.held w hw
            have hne := hgone w.it.b (by simp only [List.mem_append, List.mem_map]; exact .inl ⟨w, hw, rfl⟩)
            refine ⟨q1, by simp [v4 _ _ q2 hne], fun o ho => ?_⟩
            rcases List.mem_append.1 ho with ho | ho
            · exact q3 o ho
            · simp only [List.mem_singleton] at ho
              subst ho
              exact fun e => hne e.symm
          · rcases List.mem_append.1 hf with hf | hf
            · obtain ⟨q1, q2, q3, q4⟩ := h.fresh f hf
              have hne := hgone f.it.b (by simp only [List.mem_append, List.mem_map]; exact .inr ⟨f, hf, rfl⟩)
              refine ⟨by simp [v4 _ _ q1 hne], q2, q3, fun o ho hob => ?_⟩
              rcases List.mem_append.1 ho with ho | ho
              · exact q4 o ho hob
              · simp only [List.mem_singleton] at ho
                subst ho
                exact absurd hob.symm hne
            · simp only [List.mem_singleton] at hf
              subst hf
              refine ⟨by simp [ItT.own, v2], ⟨by have := t2.le; show m.length ≤ W[j].it.cap; omega, by show W[j].it.cap ≤ m.length + W[j].it.junk.length; omega, t2.max⟩, by show m.length ≤ _; omega, fun o ho hob => ?_⟩
              rcases List.mem_append.1 ho with ho | ho
              · exact absurd hob (t4 o ho)
              · simp only [List.mem_singleton] at ho
                subst ho
                exact Nat.le_refl _
          · rw [htake, List.map_append, ← List.append_assoc]
            exact List.Perm.append_right _ h.perm
          · rcases List.mem_append.1 ho with ho | ho
            · exact h.most o ho
            · simp only [List.mem_singleton] at ho
              subst ho
              show m.length ≤ _
              omega
    · have hjl : j = W.length := by
        have : k.waits.es.length = W.length := by rw [data.waits]; simp
        have := of_decide_eq_false hlt
        have := h.le
        omega
      subst hjl
      conv => whnf
      exact ⟨_, _, ⟨rfl, _, W', O', F', _, h⟩, St.le_refl _, AV.leS_refl _ _ _⟩
set_option maxHeartbeats 2000000 in
theorem markTexts_now (hG : G10 G) (S₀ : St) (bk : Nat) (B : BookA) (k : KL) (rest : List (Nat × Own)) (S : St) (W : List WE) (O : List OE) (M : Nat) (hM : M ≤ 1000000000) (hO : O.length + W.length ≤ 1000000000) (hnd : (W.map (·.it.b)).Nodup)
    (st : BkS S₀ strsT bk { (B.unbad true) with texts := k.kind }.cells k rest S) (data : KData k W O []) (sees : SeesT O rest) (todo : ∀ w ∈ W, (w.it.b, w.it.own) ∈ rest ∧ w.it.Ok ∧ w.it.l.length ≤ M ∧ ∀ o ∈ O, o.b ≠ w.it.b) (most : ∀ o ∈ O, o.l.length ≤ M + 30) :
    Triple P (C G) 49 [.ref bk 0] S fun o S' => o = .ret (.tu []) ∧ ∃ k' W' O' F' rest', MarkO S₀ bk (B.unbad true) W O rest M W.length k' W' O' F' rest' S' := by
  refine triple_of_awp (hT G) hm Tryz.func49 rfl (by decide +kernel) rfl (by decide +kernel) (by show 1 ≤ _; decide +kernel) rfl ?_
  have hb := st.book
  conv => whnf
  refine ⟨_, _, hb, ?_⟩
  conv => whnf
  refine ⟨_, _, hb, ?_⟩
  conv => whnf
  refine ⟨_, _, hb, ?_⟩
  conv => whnf
  refine ⟨_, _, hb, ?_⟩
  conv => whnf
  intro hlen
  conv => whnf
  refine split_of (fun h0 => ?_) (fun h0 => ?_)
  · have hW0 : W = [] := by
      have h1 : k.waits.es.length = W.length := by rw [data.waits]; simp
      have h2 := of_decide_eq_true h0
      simp at h2
      rw [h2] at h1
      exact List.length_eq_zero_iff.1 h1.symm
    subst hW0
    conv => whnf
    exact ⟨_, _, ⟨rfl, k, [], O, [], rest, ⟨st, data, by simp, sees, by simp, by simp, by simp, by simp, fun c p h _ => h, by simp, most⟩⟩, St.le_refl _, AV.leS_refl _ _ _⟩
  · conv => whnf
    refine ⟨_, _, hb, ?_⟩
    rw [forceL_eq]
    conv => whnf
    have s1 := st.store (setRange { (B.unbad true) with texts := k.kind }.cells (0 + 15) [AV.nils])
    refine ⟨_, _, s1.book, ?_⟩
    rw [forceL_eq]
    conv => whnf
    have s2 := s1.store (setRange (setRange { (B.unbad true) with texts := k.kind }.cells (0 + 15) [AV.nils]) (0 + 16) [AV.nils])
    refine ⟨_, _, s2.book, ?_⟩
    rw [forceL_eq]
    conv => whnf
    have s3 := s2.store (setRange (setRange (setRange { (B.unbad true) with texts := k.kind }.cells (0 + 15) [AV.nils]) (0 + 16) [AV.nils]) (0 + 18) [AV.nils])
    refine ⟨_, _, s3.book, ?_⟩
    rw [forceL_eq]
    conv => whnf
    have s4 := (s3.store (setRange (setRange (setRange (setRange { (B.unbad true) with texts := k.kind }.cells (0 + 15) [AV.nils]) (0 + 16) [AV.nils]) (0 + 18) [AV.nils]) (0 + 19) [AV.nils])).clear_waits.clear_note.clear_mark.clear_due
    have hl := (B.unbad true).leL_texts (K := { k.kind with waits := .nils, note := .nils, mark := .nils, due := .nils }) (K' := ({ k with waits := .empty, note := .empty, mark := .empty, due := .empty } : KL).kind) ⟨AV.le_refl _, AV.le_refl _, rfl, rfl, AV.le_refl _, rfl, rfl, AV.le_refl _, AV.le_refl _, trivial⟩
    have s5 := s4.weak hl
    refine ⟨⟨Nat × KL × List WE × List OE × List FE × List (Nat × Own), fun (j, _) => [(0, .ref bk 0), (2, k.waits.av), (3, k.note.av), (4, k.mark.av), (5, k.due.av), (6, .int .i64 (j : Int))], fun (j, k', W', O', F', rest') S' => MarkO S₀ bk (B.unbad true) W O rest M j k' W' O' F' rest' S', fun (j, _) => W.length - j⟩,
      ⟨(0, { k with waits := .empty, note := .empty, mark := .empty, due := .empty }, [], O, [], _), ⟨rfl, AV.le_refl _, AV.le_refl _, AV.le_refl _, AV.le_refl _, rfl, trivial⟩, _, s5.1, ⟨s5.2, ⟨rfl, rfl, rfl, rfl, data.out, data.told, data.fresh, data.from_⟩, by simp, sees.mono (by simp +contextual), fun w hw => ⟨by simp [(todo w hw).1], (todo w hw).2.2.2⟩, by simp, by simp, by simp, fun c p q1 _ => by simp [q1], by simp, most⟩⟩, ?_⟩
    rintro ⟨(j : Nat), (k' : KL), (W' : List WE), (O' : List OE), (F' : List FE), (rest' : List (Nat × Own))⟩ S₁ (h : MarkO S₀ bk (B.unbad true) W O rest M j k' W' O' F' rest' S₁)
    have hb := h.st.book
    have hcount := h.count
    conv => whnf
    intro hlen1
    conv => whnf
    refine split_of (fun hlt => ?_) (fun hlt => ?_)
    · have hlt : j < W.length := by
        have : k.waits.es.length = W.length := by rw [data.waits]; simp
        have := of_decide_eq_true hlt
        omega
      have w1 : IntKind.i64.wrap ((j : Int) + 1) = ((j + 1 : Nat) : Int) := wrap_nat (by omega)
      obtain ⟨t1, t4⟩ := h.todo W[j] (by rw [List.mem_iff_getElem?]; exact ⟨0, by simp [hlt]⟩)
      obtain ⟨_, t2, t3, _⟩ := todo W[j] (List.getElem_mem hlt)
      have htake : (W.take (j + 1)).map (·.it.b) = (W.take j).map (·.it.b) ++ [W[j].it.b] := by rw [List.take_succ_eq_append_getElem hlt, List.map_append]; rfl
      conv => whnf
      refine ⟨[W[j].it.hdr], ⟨by omega, by rw [data.waits]; simp [hlt]⟩, ?_⟩
      conv => whnf
      refine ⟨[.int .i64 W[j].mark], ⟨by omega, by rw [data.mark]; simp [hlt]⟩, ?_⟩
      conv => whnf
      refine ⟨[], (.free 0 (.free 1 (.free 2 (.free 3 (.free 4 (.free 5 (.free 6 (.free 7 (.free 8 .done))))))))), _, by decide +kernel, ?_, fun _ _ h => ⟨_, .inl rfl, h⟩⟩
      conv => whnf
      refine ⟨[.int .i64 W[j].due], ⟨by omega, by rw [data.due]; simp [hlt]⟩, ?_⟩
      conv => whnf
      refine ⟨_, _, hb, ?_⟩
      conv => whnf
      refine split_of (fun hdue => ?_) (fun hdue => ?_)
      · conv => whnf
        refine ⟨_, _, hb, ?_⟩
        conv => whnf
        intro b1 hb1
        conv => whnf
        have s1 := h.st.new hb1 (.tip strsT 1 1)
        refine ⟨⟨fun hn => s1.tip_waits hn, by show (_ + 1) * 24 ≤ _; rw [h.data.waits]; simp; omega⟩, ?_⟩
        conv => whnf
        intro S₂ e2 e2' b2 hb2
        have s2 := s1.push_waits e2 e2' hb2 W[j].it.hdr (n := k'.waits.es.length + 1) rfl
        conv => whnf
        refine ⟨_, _, s2.book, ?_⟩
        rw [forceL_eq]
        conv => whnf
        have s3 := s2.store (setRange { (B.unbad true) with texts := k'.kind }.cells (0 + 15) (cellsOf (AV.sl (Sh.acc b2) 1 (k'.waits.es ++ [[W[j].it.hdr]]))))
        refine ⟨[], (.free 0 (.free 1 (.free 2 (.free 3 (.free 4 (.free 5 (.free 6 (.free 7 (.free 8 (.one 9 (.one 10 (.free 11 (.free 12 (.one 13 .done .none))) .none) .none)))))))))), _, by decide +kernel, ?_, fun _ _ h => ⟨_, .inl rfl, h⟩⟩
        conv => whnf
        refine ⟨_, _, s3.book, ?_⟩
        conv => whnf
        refine ⟨[.sl (.own W[j].note) 1 (rowsS W[j].it.l)], ⟨by omega, by rw [data.note]; simp [hlt]⟩, ?_⟩
        conv => whnf
        intro b3 hb3
        conv => whnf
        have s4 := s3.new hb3 (.tip strsT 1 1)
        refine ⟨⟨fun hn => s4.tip_note hn, by show (_ + 1) * 24 ≤ _; rw [h.data.note]; simp; omega⟩, ?_⟩
        conv => whnf
        intro S₃ e3 e3' b4 hb4
        have s5 := s4.push_note e3 e3' hb4 (.sl (.own W[j].note) 1 (rowsS W[j].it.l)) (n := k'.note.es.length + 1) rfl
        conv => whnf
        refine ⟨_, _, s5.book, ?_⟩
        rw [forceL_eq]
        conv => whnf
        have s6 := s5.store (setRange (setRange { (B.unbad true) with texts := k'.kind }.cells (0 + 15) (cellsOf (AV.sl (Sh.acc b2) 1 (k'.waits.es ++ [[W[j].it.hdr]])))) (0 + 16) (cellsOf (AV.sl (Sh.acc b4) 1 (k'.note.es ++ [[AV.sl (.own W[j].note) 1 (rowsS W[j].it.l)]]))))
        refine ⟨_, _, s6.book, ?_⟩
        conv => whnf
        intro b5 hb5
        conv => whnf
        have s7 := s6.new hb5 (.tip intT 1 1)
        refine ⟨⟨fun hn => s7.tip_mark hn, by show (_ + 1) * 8 ≤ _; rw [h.data.mark]; simp; omega⟩, ?_⟩
        conv => whnf
        intro S₄ e4 e4' b6 hb6
        have s8 := s7.push_mark e4 e4' hb6 (.int .i64 W[j].mark) (n := k'.mark.es.length + 1) rfl
        conv => whnf
        refine ⟨_, _, s8.book, ?_⟩
        rw [forceL_eq]
        conv => whnf
        have s9 := s8.store (setRange (setRange (setRange { (B.unbad true) with texts := k'.kind }.cells (0 + 15) (cellsOf (AV.sl (Sh.acc b2) 1 (k'.waits.es ++ [[W[j].it.hdr]])))) (0 + 16) (cellsOf (AV.sl (Sh.acc b4) 1 (k'.note.es ++ [[AV.sl (.own W[j].note) 1 (rowsS W[j].it.l)]])))) (0 + 18) (cellsOf (AV.sl (Sh.acc b6) 1 (k'.mark.es ++ [[AV.int .i64 W[j].mark]]))))
        refine ⟨[], (.free 0 (.free 1 (.free 2 (.free 3 (.free 4 (.free 5 (.free 6 (.free 7 (.free 8 (.one 9 (.one 10 (.free 11 (.free 12 (.one 13 .done .none))) .none) .none)))))))))), _, by decide +kernel, ?_, fun _ _ h => ⟨_, .inl rfl, h⟩⟩
        conv => whnf
        refine ⟨_, _, s9.book, ?_⟩
        conv => whnf
        refine ⟨[.int .i64 W[j].due], ⟨by omega, by rw [data.due]; simp [hlt]⟩, ?_⟩
        conv => whnf
        intro b7 hb7
        conv => whnf
        have s10 := s9.new hb7 (.tip intT 1 1)
        refine ⟨⟨fun hn => s10.tip_due hn, by show (_ + 1) * 8 ≤ _; rw [h.data.due]; simp; omega⟩, ?_⟩
        conv => whnf
        intro S₅ e5 e5' b8 hb8
        have s11 := s10.push_due e5 e5' hb8 (.int .i64 W[j].due) (n := k'.due.es.length + 1) rfl
        conv => whnf
        refine ⟨_, _, s11.book, ?_⟩
        rw [forceL_eq]
        conv => whnf
        have s12 := s11.store (setRange (setRange (setRange (setRange { (B.unbad true) with texts := k'.kind }.cells (0 + 15) (cellsOf (AV.sl (Sh.acc b2) 1 (k'.waits.es ++ [[W[j].it.hdr]])))) (0 + 16) (cellsOf (AV.sl (Sh.acc b4) 1 (k'.note.es ++ [[AV.sl (.own W[j].note) 1 (rowsS W[j].it.l)]])))) (0 + 18) (cellsOf (AV.sl (Sh.acc b6) 1 (k'.mark.es ++ [[AV.int .i64 W[j].mark]])))) (0 + 19) (cellsOf (AV.sl (Sh.acc b8) 1 (k'.due.es ++ [[AV.int .i64 W[j].due]]))))
        refine ⟨(j + 1, { k' with waits := k'.waits.push b2 W[j].it.hdr, note := k'.note.push b4 (.sl (.own W[j].note) 1 (rowsS W[j].it.l)), mark := k'.mark.push b6 (.int .i64 W[j].mark), due := k'.due.push b8 (.int .i64 W[j].due) }, W' ++ [W[j]], O', F', _), ⟨rfl, AV.le_refl _, AV.le_refl _, AV.le_refl _, AV.le_refl _, congrArg _ w1, trivial⟩,
          ⟨_, St.leW_refl _, s12, ?_, hlt, h.sees.mono (by simp +contextual), fun w hw => ?_, fun w hw => ?_, fun f hf => ?_, ?_, fun c p q1 q2 => by simp [h.kept c p q1 q2], h.len, h.most⟩, by show W.length - (j + 1) < W.length - j; omega⟩
        · obtain ⟨d1, d2, d3, d4, d5, d6, d7, d8⟩ := h.data
          exact ⟨by simp [AccL.push, d1], by simp [AccL.push, d2], by simp [AccL.push, d3], by simp [AccL.push, d4], d5, d6, d7, d8⟩
        · obtain ⟨q1, q2⟩ := h.todo w (by
            rw [List.drop_eq_getElem_cons hlt]
            exact List.mem_cons_of_mem _ hw)
          exact ⟨by simp [q1], q2⟩
        · rcases List.mem_append.1 hw with hw | hw
          · obtain ⟨q1, q2, q3⟩ := h.held w hw
            exact ⟨q1, by simp [q2], q3⟩
          · simp only [List.mem_singleton] at hw
            subst hw
            exact ⟨List.getElem_mem hlt, by simp [t1], t4⟩
        · obtain ⟨q1, q2, q3, q4⟩ := h.fresh f hf
          exact ⟨by simp [q1], q2, q3, q4⟩
        · rw [htake, List.map_append, List.append_assoc]
          refine List.Perm.trans (List.Perm.append_left _ List.perm_append_comm) ?_
          rw [← List.append_assoc]
          exact List.Perm.append_right _ h.perm
      · conv => whnf
        refine ⟨_, _, hb, ?_⟩
        conv => whnf
        refine ⟨_, _, hb, ?_⟩
        conv => whnf
        refine ⟨_, _, hb, ?_⟩
        rw [forceL_eq]
        conv => whnf
        have u1 := h.st.store (setRange { (B.unbad true) with texts := k'.kind }.cells (0 + 1) [AV.bool false])
        refine ⟨⟨Nat × List ByteArray × List (Nat × Own), fun (i, m, r) => [(0, .ref bk 0), (2, k.waits.av), (3, k.note.av), (4, k.mark.av), (5, k.due.av), (6, .int .i64 (j : Int)), (7, W[j].it.hdr), (8, .int .i64 W[j].mark), (9, .int .i64 (i : Int))],
          fun (i, m, r) S' => BkS S₀ strsT bk { (B.unbad true) with texts := k'.kind }.cells k' r S' ∧ (W[j].it.b, .obj strT (m.map AV.str ++ W[j].it.junk)) ∈ r ∧ m.length = W[j].it.l.length ∧ (∀ c p, (c, p) ∈ rest' → c ≠ W[j].it.b → (c, p) ∈ r) ∧ i ≤ m.length, fun (i, _) => W[j].it.l.length - i⟩,
          ⟨(0, W[j].it.l, rest'), ⟨rfl, AV.le_refl _, AV.le_refl _, AV.le_refl _, AV.le_refl _, rfl, AV.le_refl _, rfl, rfl, trivial⟩, _, St.leW_refl _, u1, t1, rfl, fun _ _ q _ => q, by omega⟩, ?_⟩
        rintro ⟨(i : Nat), (m : List ByteArray), (r : List (Nat × Own))⟩ S₂ ⟨v1, v2, v3, v4, v5⟩
        conv => whnf
        refine split_of (fun hlt2 => ?_) (fun hlt2 => ?_)
        · have hlt2 : i < W[j].it.l.length := by have := of_decide_eq_true hlt2; omega
          have w2 : IntKind.i64.wrap ((i : Int) + 1) = ((i + 1 : Nat) : Int) := wrap_nat (by omega)
          conv => whnf
          refine (itoa_some hG _ (wrap_lo _) (wrap_hi _) _).mono ?_
          rintro o S' ⟨v, rfl, rfl⟩
          conv => whnf
          refine ⟨⟨by omega, by omega⟩, ?_⟩
          conv => whnf
          refine ⟨_, _, v1.get v2, (when_iff _ _).2 ⟨by show Nat.ble (0 + (i : Int).toNat * 1 + 1) _ = true; simp; omega, ?_⟩⟩
          rw [forceL_eq]
          conv => whnf
          obtain ⟨r', q1, q2, q3⟩ := v1.itemSet v2 (.obj strT (setRange (m.map AV.str ++ W[j].it.junk) (0 + (i : Int).toNat * 1) [AV.str v]))
          have e1 : setRange (m.map AV.str ++ W[j].it.junk) (0 + (i : Int).toNat * 1) [AV.str v] = (m.set i v).map AV.str ++ W[j].it.junk := by
            show (m.map AV.str ++ W[j].it.junk).set _ _ = _
            rw [show 0 + (i : Int).toNat * 1 = i by omega, List.set_append_left _ _ (by simp; omega), List.map_set]
          rw [e1] at q2
          exact ⟨(i + 1, m.set i v, r'), ⟨rfl, AV.le_refl _, AV.le_refl _, AV.le_refl _, AV.le_refl _, rfl, AV.le_refl _, rfl, congrArg _ w2, trivial⟩, ⟨_, St.leW_refl _, q1, q2, by simp [v3], fun c p z1 z2 => q3 c p (v4 c p z1 z2) z2, by simp; omega⟩, by show W[j].it.l.length - (i + 1) < W[j].it.l.length - i; omega⟩
        · have hi : i = m.length := by have := of_decide_eq_false hlt2; omega
          have hjk := t2.room
          have hjm := t2.max
          conv => whnf
          refine ⟨_, _, v1.book, ?_⟩
          conv => whnf
          intro b1 hb1
          conv => whnf
          have s1 := v1.new hb1 (.tip strsT 1 1)
          refine ⟨⟨fun hn => s1.tip_out hn, by show (_ + 1) * 24 ≤ _; rw [h.data.out]; simp [h.len]; omega⟩, ?_⟩
          conv => whnf
          intro S₃ e3 e3' b2 hb2
          have s2 := s1.push_out e3 e3' hb2 (AV.arr W[j].it.b 0 W[j].it.l.length W[j].it.cap) (n := k'.out.es.length + 1) rfl
          conv => whnf
          refine ⟨_, _, s2.book, ?_⟩
          rw [forceL_eq]
          conv => whnf
          refine ⟨[], (.free 0 (.free 1 (.free 2 (.free 3 (.free 4 (.free 6 (.one 5 (.one 7 (.one 8 (.one 9 (.free 10 (.free 11 (.one 12 .done .none))) .none) .none) .none) .none))))))), _, by decide +kernel, ?_, fun _ _ h => ⟨_, .inl rfl, h⟩⟩
          conv => whnf
          have s3 := s2.store (setRange { (B.unbad true) with texts := k'.kind }.cells (0 + 13) (cellsOf (AV.sl (Sh.acc b2) 1 (k'.out.es ++ [[AV.arr W[j].it.b 0 W[j].it.l.length W[j].it.cap]]))))
          refine ⟨_, _, s3.book, ?_⟩
          conv => whnf
          intro b5 hb5
          conv => whnf
          have s4 := s3.new hb5 (.tip strT 1 0)
          have c2 := s4.get (b := W[j].it.b) (o := .obj strT (m.map AV.str ++ W[j].it.junk)) (by simp [v2])
          refine ⟨_, _, c2, by show 0 + W[j].it.l.length * 1 ≤ _; simp; omega, ?_⟩
          rw [show rowsOf ((C G).T strT).size (List.take (W[j].it.l.length * ((C G).T strT).size) (List.drop 0 (m.map AV.str ++ W[j].it.junk))) W[j].it.l.length = rowsS m from by rw [← v3]; exact rows_pre m _]
          conv => whnf
          refine ⟨⟨St.upd_same _ _ _, by show (0 + _) * 16 ≤ _; rw [rowsS_len]; omega⟩, ?_⟩
          conv => whnf
          intro b6 hb6
          rw [St.del_upd hb5] at hb6 ⊢
          have s5 := s3.new hb6 (.tip strT 1 (0 + (rowsS m).length))
          conv => whnf
          intro b7 hb7
          conv => whnf
          have s6 := s5.new hb7 (.tip strsT 1 1)
          refine ⟨⟨fun hn => s6.tip_told hn, by show (_ + 1) * 24 ≤ _; rw [h.data.told]; simp [h.len]; omega⟩, ?_⟩
          conv => whnf
          intro S₄ e4 e4' b8 hb8
          have s7 := s6.push_told e4 e4' hb8 (.sl (.own b6) 1 (rowsS m)) (n := k'.told.es.length + 1) rfl
          conv => whnf
          refine ⟨_, _, s7.book, ?_⟩
          rw [forceL_eq]
          conv => whnf
          have s8 := s7.store (setRange (setRange { (B.unbad true) with texts := k'.kind }.cells (0 + 13) (cellsOf (AV.sl (Sh.acc b2) 1 (k'.out.es ++ [[AV.arr W[j].it.b 0 W[j].it.l.length W[j].it.cap]])))) (0 + 14) (cellsOf (AV.sl (Sh.acc b8) 1 (k'.told.es ++ [[AV.sl (Sh.own b6) 1 (rowsS m)]]))))
          refine ⟨_, _, s8.book, ?_⟩
          conv => whnf
          intro b9 hb9
          conv => whnf
          have s9 := s8.new hb9 (.tip strsT 1 1)
          refine ⟨⟨fun hn => s9.tip_fresh hn, by show (_ + 1) * 24 ≤ _; rw [h.data.fresh]; simp; omega⟩, ?_⟩
          conv => whnf
          intro S₅ e5 e5' b10 hb10
          have s10 := s9.push_fresh e5 e5' hb10 (AV.arr W[j].it.b 0 W[j].it.l.length W[j].it.cap) (n := k'.fresh.es.length + 1) rfl
          conv => whnf
          refine ⟨_, _, s10.book, ?_⟩
          rw [forceL_eq]
          conv => whnf
          have s11 := s10.store (setRange (setRange (setRange { (B.unbad true) with texts := k'.kind }.cells (0 + 13) (cellsOf (AV.sl (Sh.acc b2) 1 (k'.out.es ++ [[AV.arr W[j].it.b 0 W[j].it.l.length W[j].it.cap]])))) (0 + 14) (cellsOf (AV.sl (Sh.acc b8) 1 (k'.told.es ++ [[AV.sl (Sh.own b6) 1 (rowsS m)]])))) (0 + 17) (cellsOf (AV.sl (Sh.acc b10) 1 (k'.fresh.es ++ [[AV.arr W[j].it.b 0 W[j].it.l.length W[j].it.cap]]))))
          refine ⟨_, _, s11.book, ?_⟩
          conv => whnf
          intro b11 hb11
          conv => whnf
          have s12 := s11.new hb11 (.tip intT 1 1)
          refine ⟨⟨fun hn => s12.tip_from_ hn, by show (_ + 1) * 8 ≤ _; rw [h.data.from_]; simp; omega⟩, ?_⟩
          conv => whnf
          intro S₆ e6 e6' b12 hb12
          have s13 := s12.push_from_ e6 e6' hb12 (.int .i64 W[j].mark) (n := k'.from_.es.length + 1) rfl
          conv => whnf
          refine ⟨_, _, s13.book, ?_⟩
          rw [forceL_eq]
          conv => whnf
          have s14 := s13.store (setRange (setRange (setRange (setRange { (B.unbad true) with texts := k'.kind }.cells (0 + 13) (cellsOf (AV.sl (Sh.acc b2) 1 (k'.out.es ++ [[AV.arr W[j].it.b 0 W[j].it.l.length W[j].it.cap]])))) (0 + 14) (cellsOf (AV.sl (Sh.acc b8) 1 (k'.told.es ++ [[AV.sl (Sh.own b6) 1 (rowsS m)]])))) (0 + 17) (cellsOf (AV.sl (Sh.acc b10) 1 (k'.fresh.es ++ [[AV.arr W[j].it.b 0 W[j].it.l.length W[j].it.cap]])))) (0 + 20) (cellsOf (AV.sl (Sh.acc b12) 1 (k'.from_.es ++ [[AV.int .i64 W[j].mark]]))))
          have hdist : ∀ w ∈ W.drop (j + 1), w.it.b ≠ W[j].it.b := fun w hw e => by
            rw [List.mem_iff_getElem?] at hw
            obtain ⟨i, hi⟩ := hw
            rw [List.getElem?_drop] at hi
            have h1 : (W.map (·.it.b))[j + 1 + i]? = some w.it.b := by simp [hi]
            have h2 : (W.map (·.it.b))[j]? = some w.it.b := by simp [hlt, e]
            have hlt2 : j + 1 + i < (W.map (·.it.b)).length := by
              rcases Nat.lt_or_ge (j + 1 + i) (W.map (·.it.b)).length with h | h
              · exact h
              · rw [List.getElem?_eq_none h] at h1; cases h1
            have := (List.getElem?_inj hlt2 hnd).1 (h1.trans h2.symm)
            omega
          have hgone : ∀ b, b ∈ W'.map (·.it.b) ++ F'.map (·.it.b) → b ≠ W[j].it.b := fun b hb' e => by
            have h1 := h.perm.subset hb'
            rw [List.map_take, List.mem_iff_getElem?] at h1
            obtain ⟨i, hi⟩ := h1
            have hij : i < j := by
              rcases Nat.lt_or_ge i j with h | h
              · exact h
              · rw [List.getElem?_eq_none (by simp; omega)] at hi; cases hi
            rw [List.getElem?_take_of_lt hij] at hi
            have h2 : (W.map (·.it.b))[j]? = some b := by simp [hlt, e]
            have := (List.getElem?_inj (by simp; omega) hnd).1 (hi.trans h2.symm)
            omega
          refine ⟨(j + 1, { k' with out := k'.out.push b2 (AV.arr W[j].it.b 0 W[j].it.l.length W[j].it.cap), told := k'.told.push b8 (.sl (.own b6) 1 (rowsS m)), fresh := k'.fresh.push b10 (AV.arr W[j].it.b 0 W[j].it.l.length W[j].it.cap), from_ := k'.from_.push b12 (.int .i64 W[j].mark) }, W', O' ++ [⟨W[j].it.b, W[j].it.cap, m, b6⟩], F' ++ [⟨⟨W[j].it.b, W[j].it.cap, m, W[j].it.junk⟩, W[j].mark⟩], _), ⟨rfl, AV.le_refl _, AV.le_refl _, AV.le_refl _, AV.le_refl _, congrArg _ w1, trivial⟩,
            ⟨_, St.leW_refl _, s14, ?_, hlt, fun o ho => ?_, fun w hw => ?_, fun w hw => ?_, fun f hf => ?_, ?_, fun c p q1 q2 => by simp [v4 c p (h.kept c p q1 q2) (q2 _ (List.getElem_mem hlt))], by simp [h.len]; omega, fun o ho => ?_⟩, by show W.length - (j + 1) < W.length - j; omega⟩
          · obtain ⟨d1, d2, d3, d4, d5, d6, d7, d8⟩ := h.data
            exact ⟨d1, d2, d3, d4, by simp [AccL.push, d5, v3], by simp [AccL.push, d6], by simp [AccL.push, d7, v3, ItT.hdr], by simp [AccL.push, d8]⟩
          · rcases List.mem_append.1 ho with ho | ho
            · obtain ⟨c, z1, z2⟩ := h.sees o ho
              exact ⟨c, by simp [v4 _ _ z1 (t4 o ho)], z2⟩
            · simp only [List.mem_singleton] at ho
              subst ho
              exact ⟨_, by simp [v2], W[j].it.junk, rfl⟩
          · obtain ⟨q1, q2⟩ := h.todo w (by
              rw [List.drop_eq_getElem_cons hlt]
              exact List.mem_cons_of_mem _ hw)
            refine ⟨by simp [v4 _ _ q1 (hdist w hw)], fun o ho => ?_⟩
            rcases List.mem_append.1 ho with ho | ho
            · exact q2 o ho
            · simp only [List.mem_singleton] at ho
              subst ho
              exact fun e => hdist w hw e.symm
          · obtain ⟨q1, q2, q3⟩ := h.held w hw
            have hne := hgone w.it.b (by simp only [List.mem_append, List.mem_map]; exact .inl ⟨w, hw, rfl⟩)
            refine ⟨q1, by simp [v4 _ _ q2 hne], fun o ho => ?_⟩
            rcases List.mem_append.1 ho with ho | ho
            · exact q3 o ho
            · simp only [List.mem_singleton] at ho
              subst ho
              exact fun e => hne e.symm
          · rcases List.mem_append.1 hf with hf | hf
            · obtain ⟨q1, q2, q3, q4⟩ := h.fresh f hf
              have hne := hgone f.it.b (by simp only [List.mem_append, List.mem_map]; exact .inr ⟨f, hf, rfl⟩)
              refine ⟨by simp [v4 _ _ q1 hne], q2, q3, fun o ho hob => ?_⟩
              rcases List.mem_append.1 ho with ho | ho
              · exact q4 o ho hob
              · simp only [List.mem_singleton] at ho
                subst ho
                exact absurd hob.symm hne
            · simp only [List.mem_singleton] at hf
              subst hf
              refine ⟨by simp [ItT.own, v2], ⟨by have := t2.le; show m.length ≤ W[j].it.cap; omega, by show W[j].it.cap ≤ m.length + W[j].it.junk.length; omega, t2.max⟩, by show m.length ≤ _; omega, fun o ho hob => ?_⟩
              rcases List.mem_append.1 ho with ho | ho
              · exact absurd hob (t4 o ho)
              · simp only [List.mem_singleton] at ho
                subst ho
                exact Nat.le_refl _
          · rw [htake, List.map_append, ← List.append_assoc]
            exact List.Perm.append_right _ h.perm
          · rcases List.mem_append.1 ho with ho | ho
            · exact h.most o ho
            · simp only [List.mem_singleton] at ho
              subst ho
              show m.length ≤ _
              omega
    · have hjl : j = W.length := by
        have : k.waits.es.length = W.length := by rw [data.waits]; simp
        have := of_decide_eq_false hlt
        have := h.le
        omega
      subst hjl
      conv => whnf
      exact ⟨_, _, ⟨rfl, _, W', O', F', _, h⟩, St.le_refl _, AV.leS_refl _ _ _⟩
theorem markTexts_ok (hG : G10 G) (S₀ : St) (bk : Nat) (B : BookA) (hbad : B.bad = false) (k : KL) (rest : List (Nat × Own)) (S : St) (W : List WE) (O : List OE) (M : Nat) (hM : M ≤ 1000000000) (hO : O.length + W.length ≤ 1000000000) (hnd : (W.map (·.it.b)).Nodup)
    (st : BkS S₀ strsT bk { B with texts := k.kind }.cells k rest S) (data : KData k W O []) (sees : SeesT O rest) (todo : ∀ w ∈ W, (w.it.b, w.it.own) ∈ rest ∧ w.it.Ok ∧ w.it.l.length ≤ M ∧ ∀ o ∈ O, o.b ≠ w.it.b) (most : ∀ o ∈ O, o.l.length ≤ M + 30) :
    Triple P (C G) 49 [.ref bk 0] S fun o S' => o = .ret (.tu []) ∧ ∃ k' W' O' F' rest', MarkO S₀ bk B W O rest M W.length k' W' O' F' rest' S' := by
  generalize hnw : B.now = nw
  have hB := B.unbad_eq hbad
  rw [hnw] at hB
  rw [← hB] at st ⊢
  cases nw with
  | false => exact markTexts_late hG S₀ bk B k rest S W O M hM hO hnd st data sees todo most
  | true => exact markTexts_now hG S₀ bk B k rest S W O M hM hO hnd st data sees todo most
end Go.Proofs.YtikkoaoibomofaaGreatDoor.Aw

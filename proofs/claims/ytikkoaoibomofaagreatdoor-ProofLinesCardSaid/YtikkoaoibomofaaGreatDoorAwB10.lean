/-
  Hallmarkkept's Book with lists of strings alone: Texts.
-/
import Derived.Test.YtikkoaoibomofaaGreatDoorAwB9
set_option maxRecDepth 100000
set_option linter.unusedVariables false
set_option linter.unusedSimpArgs false
namespace Go.Proofs.YtikkoaoibomofaaGreatDoor.Aw
open Go Go.RowKit
variable {G : Nat → Option (List AV)}

theorem BkS.seen {S₀ : St} {tS bk : Nat} {cells : List AV} {k : KL} {rest : List (Nat × Own)} {S : St} (h : BkS S₀ tS bk cells k rest S) (n : Int) : BkS S₀ tS bk cells { k with seen := n } rest S := ⟨h.ok, h.eq⟩
set_option maxHeartbeats 2000000 in
theorem Texts_ok (hG : G10 G) {S₀ : St} {bk : Nat} {nw : Bool} {turn : Int} {k : KL} {W : List WE} {O : List OE} {rest : List (Nat × Own)} {M : Nat} {S : St} (h : TxtS S₀ bk nw turn 0 k W O rest M S) (it : ItT) (hit : (it.b, it.own) ∈ rest) (hok : it.Ok) (hl : it.l.length ≤ M)
    (hO : ∀ o ∈ O, o.b ≠ it.b) (hW : ∀ w ∈ W, w.it.b ≠ it.b) (mark : Int) (hM : M ≤ 1000000000) (hc : O.length + 2 * W.length ≤ 100000) :
    Triple P (C G) 6 [.ref bk 0, .arr it.b 0 it.l.length it.cap, .int .i64 mark] S fun o S' => o = .ret (.tu []) ∧ ∃ k' W' O' rest', TxtS S₀ bk nw (IntKind.i64.wrap (turn + 1)) 0 k' W' O' rest' M S' ∧ O'.length + 2 * W'.length ≤ O.length + 2 * W.length + 2 := by
  refine triple_of_awp (hT G) hm Tryz.func6 rfl (by decide +kernel) rfl (by decide +kernel) (by show 3 ≤ _; decide +kernel) rfl ?_
  have hb := h.st.book
  have w0 : IntKind.i64.wrap (0 + 1) = 1 := by decide
  refine awp_seq2 fun K hK hQ => ?_
  conv => whnf
  refine ⟨_, _, hb, ?_⟩
  conv => whnf
  refine ⟨_, _, hb, ?_⟩
  rw [forceL_eq]
  conv => whnf
  refine hK _ _ ?_
  clear hK hQ K
  have s0 := h.st.store (setRange (BookA.txt nw turn 0 k.kind).cells (0 + 3) [AV.int .i64 (IntKind.i64.wrap (0 + 1))])
  have t0 : TxtS S₀ bk nw turn (IntKind.i64.wrap (0 + 1)) k W O rest M _ := ⟨s0, h.data, h.sees, h.todo, h.nd, h.most⟩
  refine awp_seq2 fun K hK hQ => ?_
  conv => whnf
  refine ⟨_, _, s0.book, ?_⟩
  conv => whnf
  intro b1 hb1
  conv => whnf
  have s1 := t0.st.new hb1 (.tip strsT 1 1)
  refine ⟨⟨fun hn => s1.tip_waits hn, by show (_ + 1) * 24 ≤ _; rw [h.data.waits]; simp; omega⟩, ?_⟩
  conv => whnf
  intro S₂ e2 e2' b2 hb2
  have s2 := s1.push_waits e2 e2' hb2 (.arr it.b 0 it.l.length it.cap) (n := k.waits.es.length + 1) rfl
  conv => whnf
  refine ⟨_, _, s2.book, ?_⟩
  rw [forceL_eq]
  conv => whnf
  refine hK _ _ ?_
  clear hK hQ K
  have s3 := s2.store (setRange (BookA.txt nw turn (IntKind.i64.wrap (0 + 1)) k.kind).cells (0 + 15) (cellsOf (AV.sl (Sh.acc b2) 1 (k.waits.es ++ [[.arr it.b 0 it.l.length it.cap]]))))
  refine awp_seq2 fun K hK hQ => ?_
  refine ⟨[], (.free 0 (.free 1 (.free 2 (.free 3 (.free 4 (.free 6 (.one 5 (.one 7 (.one 8 (.one 9 (.free 10 (.free 11 (.one 12 .done .none))) .none) .none) .none) .none))))))), _, by decide +kernel, ?_, fun _ _ h => ⟨_, .inl rfl, h⟩⟩
  conv => whnf
  have hjk := hok.room
  have hjl := hok.le
  have hjm := hok.max
  refine ⟨_, _, s3.book, ?_⟩
  conv => whnf
  intro b5 hb5
  conv => whnf
  have s4 := s3.new hb5 (.tip strT 1 0)
  have g2 := s4.get (b := it.b) (o := .obj strT (it.l.map AV.str ++ it.junk)) (by simp [show (it.b, Own.obj strT (it.l.map AV.str ++ it.junk)) ∈ rest from hit])
  refine ⟨_, _, g2, by show 0 + it.l.length * 1 ≤ _; simp, ?_⟩
  rw [show rowsOf ((C G).T strT).size (List.take (it.l.length * ((C G).T strT).size) (List.drop 0 (it.l.map AV.str ++ it.junk))) it.l.length = rowsS it.l from rows_pre it.l _]
  conv => whnf
  refine ⟨⟨St.upd_same _ _ _, by show (0 + _) * 16 ≤ _; rw [rowsS_len]; omega⟩, ?_⟩
  conv => whnf
  intro b6 hb6
  rw [St.del_upd hb5] at hb6 ⊢
  have s5 := s3.new hb6 (.tip strT 1 (0 + (rowsS it.l).length))
  conv => whnf
  intro b7 hb7
  conv => whnf
  have s6 := s5.new hb7 (.tip strsT 1 1)
  refine ⟨⟨fun hn => s6.tip_note hn, by show (_ + 1) * 24 ≤ _; rw [h.data.note]; simp; omega⟩, ?_⟩
  conv => whnf
  intro S₄ e4 e4' b8 hb8
  have s7 := s6.push_note e4 e4' hb8 (.sl (.own b6) 1 (rowsS it.l)) (n := k.note.es.length + 1) rfl
  conv => whnf
  refine ⟨_, _, s7.book, ?_⟩
  rw [forceL_eq]
  conv => whnf
  refine hK _ _ ?_
  clear hK hQ K
  have s8 := s7.store (setRange (setRange (BookA.txt nw turn (IntKind.i64.wrap (0 + 1)) k.kind).cells (0 + 15) (cellsOf (AV.sl (Sh.acc b2) 1 (k.waits.es ++ [[.arr it.b 0 it.l.length it.cap]])))) (0 + 16) (cellsOf (AV.sl (Sh.acc b8) 1 (k.note.es ++ [[AV.sl (Sh.own b6) 1 (rowsS it.l)]]))))
  refine awp_seq2 fun K hK hQ => ?_
  conv => whnf
  refine ⟨_, _, s8.book, ?_⟩
  conv => whnf
  intro b9 hb9
  conv => whnf
  have s9 := s8.new hb9 (.tip intT 1 1)
  refine ⟨⟨fun hn => s9.tip_mark hn, by show (_ + 1) * 8 ≤ _; rw [h.data.mark]; simp; omega⟩, ?_⟩
  conv => whnf
  intro S₅ e5 e5' b10 hb10
  have s10 := s9.push_mark e5 e5' hb10 (.int .i64 mark) (n := k.mark.es.length + 1) rfl
  conv => whnf
  refine ⟨_, _, s10.book, ?_⟩
  rw [forceL_eq]
  conv => whnf
  refine hK _ _ ?_
  clear hK hQ K
  have s11 := s10.store (setRange (setRange (setRange (BookA.txt nw turn (IntKind.i64.wrap (0 + 1)) k.kind).cells (0 + 15) (cellsOf (AV.sl (Sh.acc b2) 1 (k.waits.es ++ [[.arr it.b 0 it.l.length it.cap]])))) (0 + 16) (cellsOf (AV.sl (Sh.acc b8) 1 (k.note.es ++ [[AV.sl (Sh.own b6) 1 (rowsS it.l)]])))) (0 + 18) (cellsOf (AV.sl (Sh.acc b10) 1 (k.mark.es ++ [[AV.int .i64 mark]]))))
  refine awp_seq2 fun K hK hQ => ?_
  let KK : KindA := { k.kind with waits := AV.sl (Sh.acc b2) 1 (k.waits.es ++ [[.arr it.b 0 it.l.length it.cap]]), note := AV.sl (Sh.acc b8) 1 (k.note.es ++ [[AV.sl (Sh.own b6) 1 (rowsS it.l)]]), mark := AV.sl (Sh.acc b10) 1 (k.mark.es ++ [[AV.int .i64 mark]]) }
  obtain ⟨d, hd⟩ := due_ok (G := G) bk nw turn (IntKind.i64.wrap (0 + 1)) KK k.seen _ s11.book
  refine ⟨[10], (.free 0 (.free 1 (.free 2 (.free 3 (.free 4 (.free 5 (.free 6 (.free 7 (.free 8 (.free 9 (.free 10 (.one 11 (.one 12 (.free 13 (.free 14 (.one 15 .done .none))) .none) .none)))))))))))), _, by decide +kernel, ?_, fun _ _ h => ⟨_, .inl rfl, h⟩⟩
  conv => whnf
  refine ⟨_, _, s11.book, ?_⟩
  conv => whnf
  refine ⟨_, _, s11.book, ?_⟩
  conv => whnf
  refine ⟨.int .i64 d, hd.mono ?_, ?_⟩
  · rintro o S' ⟨rfl, rfl⟩
    exact ⟨rfl, rfl⟩
  conv => whnf
  intro b11 hb11
  conv => whnf
  have s12 := s11.new hb11 (.tip intT 1 1)
  refine ⟨⟨fun hn => s12.tip_due hn, by show (_ + 1) * 8 ≤ _; rw [h.data.due]; simp; omega⟩, ?_⟩
  conv => whnf
  intro S₆ e6 e6' b12 hb12
  have s13 := s12.push_due e6 e6' hb12 (.int .i64 d) (n := k.due.es.length + 1) rfl
  conv => whnf
  refine ⟨_, _, s13.book, ?_⟩
  rw [forceL_eq]
  conv => whnf
  refine hK _ _ ?_
  clear hK hQ K
  have s14 := s13.store (setRange (setRange (setRange (setRange (BookA.txt nw turn (IntKind.i64.wrap (0 + 1)) k.kind).cells (0 + 15) (cellsOf (AV.sl (Sh.acc b2) 1 (k.waits.es ++ [[.arr it.b 0 it.l.length it.cap]])))) (0 + 16) (cellsOf (AV.sl (Sh.acc b8) 1 (k.note.es ++ [[AV.sl (Sh.own b6) 1 (rowsS it.l)]])))) (0 + 18) (cellsOf (AV.sl (Sh.acc b10) 1 (k.mark.es ++ [[AV.int .i64 mark]])))) (0 + 19) (cellsOf (AV.sl (Sh.acc b12) 1 (k.due.es ++ [[AV.int .i64 d]]))))
  refine awp_seq2 fun K hK hQ => ?_
  conv => whnf
  refine ⟨_, _, s14.book, ?_⟩
  conv => whnf
  refine ⟨_, _, s14.book, ?_⟩
  rw [forceL_eq]
  conv => whnf
  refine hK _ _ ?_
  clear hK hQ K
  have s15 := s14.store (setRange (setRange (setRange (setRange (setRange (BookA.txt nw turn (IntKind.i64.wrap (0 + 1)) k.kind).cells (0 + 15) (cellsOf (AV.sl (Sh.acc b2) 1 (k.waits.es ++ [[.arr it.b 0 it.l.length it.cap]])))) (0 + 16) (cellsOf (AV.sl (Sh.acc b8) 1 (k.note.es ++ [[AV.sl (Sh.own b6) 1 (rowsS it.l)]])))) (0 + 18) (cellsOf (AV.sl (Sh.acc b10) 1 (k.mark.es ++ [[AV.int .i64 mark]])))) (0 + 19) (cellsOf (AV.sl (Sh.acc b12) 1 (k.due.es ++ [[AV.int .i64 d]])))) (0 + 21) [AV.int .i64 (IntKind.i64.wrap (k.seen + 1))])
  have d15 : KData { k with waits := k.waits.push b2 (.arr it.b 0 it.l.length it.cap), note := k.note.push b8 (.sl (.own b6) 1 (rowsS it.l)), mark := k.mark.push b10 (.int .i64 mark), due := k.due.push b12 (.int .i64 d), seen := IntKind.i64.wrap (k.seen + 1) } (W ++ [⟨it, b6, mark, d⟩]) O [] := by
    obtain ⟨d1, d2, d3, d4, d5, d6, d7, d8⟩ := h.data
    exact ⟨by simp [AccL.push, d1, ItT.hdr], by simp [AccL.push, d2], by simp [AccL.push, d3], by simp [AccL.push, d4], d5, d6, d7, d8⟩
  have todo15 : ∀ r : List (Nat × Own), (∀ x ∈ rest, x ∈ r) → ∀ w ∈ W ++ [⟨it, b6, mark, d⟩], (w.it.b, w.it.own) ∈ r ∧ w.it.Ok ∧ w.it.l.length ≤ M ∧ ∀ o ∈ O, o.b ≠ w.it.b := fun r hr w hw => by
    rcases List.mem_append.1 hw with hw | hw
    · obtain ⟨q1, q2, q3, q4⟩ := h.todo w hw
      exact ⟨hr _ q1, q2, q3, q4⟩
    · simp only [List.mem_singleton] at hw
      subst hw
      exact ⟨hr _ hit, hok, hl, hO⟩
  have nd15 : ((W ++ [(⟨it, b6, mark, d⟩ : WE)]).map (fun w : WE => w.it.b)).Nodup := by
    rw [List.map_append]
    refine List.nodup_append.2 ⟨h.nd, by simp, fun a ha b hb => ?_⟩
    obtain ⟨w, hw, rfl⟩ := List.mem_map.1 ha
    simp only [List.map_cons, List.map_nil, List.mem_singleton] at hb
    subst hb
    exact hW w hw
  have t15 : TxtS S₀ bk nw turn (IntKind.i64.wrap (0 + 1)) { k with waits := k.waits.push b2 (.arr it.b 0 it.l.length it.cap), note := k.note.push b8 (.sl (.own b6) 1 (rowsS it.l)), mark := k.mark.push b10 (.int .i64 mark), due := k.due.push b12 (.int .i64 d), seen := IntKind.i64.wrap (k.seen + 1) } (W ++ [⟨it, b6, mark, d⟩]) O _ M _ := ⟨s15.seen _, d15, h.sees.mono (by simp +contextual), todo15 _ (by simp +contextual), nd15, h.most⟩
  rw [w0] at t15
  conv => whnf
  refine (done_ok hG t15 hM (by simp; omega)).mono ?_
  rintro o S' ⟨rfl, k', W', O', rest', t16, hlen⟩
  conv => whnf
  exact ⟨_, _, ⟨rfl, k', W', O', rest', t16, by simp at hlen; omega⟩, St.le_refl _, AV.leS_refl _ _ _⟩
end Go.Proofs.YtikkoaoibomofaaGreatDoor.Aw

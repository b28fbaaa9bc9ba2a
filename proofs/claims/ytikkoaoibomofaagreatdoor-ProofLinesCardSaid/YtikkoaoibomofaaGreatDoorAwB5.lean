/-
  Hallmarkkept's Book: lists of strings: growTexts.
-/
import Derived.Test.YtikkoaoibomofaaGreatDoorAwB4
set_option maxRecDepth 100000
set_option linter.unusedVariables false
set_option linter.unusedSimpArgs false
namespace Go.Proofs.YtikkoaoibomofaaGreatDoor.Aw
open Go Go.RowKit
variable {G : Nat → Option (List AV)}

/-- What is known between two rounds of growTexts. -/
structure GrowO (S₀ : St) (bk : Nat) (B : BookA) (W : List WE) (O : List OE) (F : List FE) (rest₀ : List (Nat × Own)) (M : Nat) (j : Nat) (k : KL) (O' : List OE) (rest : List (Nat × Own)) (S : St) : Prop where
  st : BkS S₀ strsT bk { B with texts := k.kind }.cells k rest S
  data : KData k W O' F
  le : j ≤ F.length
  sees : SeesT O' rest
  todo : ∀ f ∈ F.drop j, (f.it.b, f.it.own) ∈ rest ∧ f.it.Ok ∧ f.it.l.length ≤ M ∧ ∀ o ∈ O', o.b = f.it.b → o.l.length ≤ f.it.l.length
  kept : ∀ c p, (c, p) ∈ rest₀ → (∀ f ∈ F, c ≠ f.it.b) → (c, p) ∈ rest
  len : O'.length = O.length + j
  most : ∀ o ∈ O', o.l.length ≤ M + 30
  apart : ∀ c p, (c, p) ∈ rest₀ → (∀ f ∈ F, c ≠ f.it.b) → (∀ o ∈ O, o.b ≠ c) → ∀ o ∈ O', o.b ≠ c
set_option maxHeartbeats 2000000 in
theorem growTexts_ok (hG : G10 G) (S₀ : St) (bk : Nat) (B : BookA) (k : KL) (rest : List (Nat × Own)) (S : St) (W : List WE) (O : List OE) (F : List FE) (M : Nat) (hM : M ≤ 1000000000) (hO : O.length + F.length ≤ 1000000000) (hnd : (F.map (·.it.b)).Nodup)
    (h0 : GrowO S₀ bk B W O F rest M 0 k O rest S) :
    Triple P (C G) 64 [.ref bk 0] S fun o S' => o = .ret (.tu []) ∧ ∃ k' O' rest', BkS S₀ strsT bk { B with texts := k'.kind }.cells k' rest' S' ∧ KData k' W O' [] ∧ SeesT O' rest' ∧
      (∀ c p, (c, p) ∈ rest → (∀ f ∈ F, c ≠ f.it.b) → (c, p) ∈ rest') ∧ O'.length = O.length + F.length ∧ (∀ o ∈ O', o.l.length ≤ M + 30) ∧ (∀ c p, (c, p) ∈ rest → (∀ f ∈ F, c ≠ f.it.b) → (∀ o ∈ O, o.b ≠ c) → ∀ o ∈ O', o.b ≠ c) := by
  refine Triple.lessW (Q := fun o S' => o = .ret (.tu []) ∧ ∃ k' O' rest', BkS S₀ strsT bk { B with texts := { k'.kind with fresh := .nils, from_ := .nils } }.cells k' rest' S' ∧ KData k' W O' [] ∧ SeesT O' rest' ∧
      (∀ c p, (c, p) ∈ rest → (∀ f ∈ F, c ≠ f.it.b) → (c, p) ∈ rest') ∧ O'.length = O.length + F.length ∧ (∀ o ∈ O', o.l.length ≤ M + 30) ∧ (∀ c p, (c, p) ∈ rest → (∀ f ∈ F, c ≠ f.it.b) → (∀ o ∈ O, o.b ≠ c) → ∀ o ∈ O', o.b ≠ c)) ?_ ?_
  rotate_left
  · rintro o S' ⟨ho, k', O', rest', h1, h2, h3, h4, h5, h6⟩
    have hl := B.leL_texts (K := { k'.kind with fresh := .nils, from_ := .nils }) (K' := k'.kind) ⟨AV.le_refl _, AV.le_refl _, AV.le_refl _, AV.le_refl _, h2.fresh, AV.le_refl _, AV.le_refl _, h2.from_, AV.le_refl _, trivial⟩
    exact ⟨_, ⟨ho, k', O', rest', (h1.weak hl).2, h2, h3, h4, h5, h6⟩, (h1.weak hl).1⟩
  refine triple_of_awp (hT G) hm Tryz.func64 rfl (by decide +kernel) rfl (by decide +kernel) (by show 1 ≤ _; decide +kernel) rfl ?_
  conv => whnf
  refine ⟨⟨Nat × KL × List OE × List (Nat × Own), fun (j, _) => [(0, .ref bk 0), (2, .int .i64 (j : Int))], fun (j, k', O', rest') S' => GrowO S₀ bk B W O F rest M j k' O' rest' S', fun (j, _) => F.length - j⟩,
    ⟨(0, k, O, rest), ⟨rfl, rfl, trivial⟩, S, St.leW_refl _, h0⟩, ?_⟩
  rintro ⟨(j : Nat), (k' : KL), (O' : List OE), (rest' : List (Nat × Own))⟩ S₁ (h : GrowO S₀ bk B W O F rest M j k' O' rest' S₁)
  have hb := h.st.book
  conv => whnf
  refine ⟨_, _, hb, ?_⟩
  conv => whnf
  intro hlen
  conv => whnf
  refine split_of (fun hlt => ?_) (fun hlt => ?_)
  · have hlt : j < F.length := by
      have : k'.fresh.es.length = F.length := by rw [h.data.fresh]; simp
      have := of_decide_eq_true hlt
      omega
    have w1 : IntKind.i64.wrap ((j : Int) + 1) = ((j + 1 : Nat) : Int) := wrap_nat (by omega)
    obtain ⟨t1, t2, t3, t4⟩ := h.todo F[j] (by rw [List.mem_iff_getElem?]; exact ⟨0, by simp [hlt]⟩)
    conv => whnf
    refine ⟨_, _, hb, ?_⟩
    conv => whnf
    refine ⟨[.int .i64 F[j].from_], ⟨by omega, by rw [h.data.from_]; simp [hlt]⟩, ?_⟩
    conv => whnf
    refine ⟨_, _, hb, ?_⟩
    conv => whnf
    refine ⟨[F[j].it.hdr], ⟨by omega, by rw [h.data.fresh]; simp [hlt]⟩, ?_⟩
    conv => whnf
    have hg0 : GrowT O' (fun c => (∃ p, (c, p) ∈ rest') ∧ c ≠ F[j].it.b) rest' rest' F[j].it.b F[j].it.cap F[j].it.l :=
      ⟨⟨_, t1, ⟨_, rfl⟩, by simpa using t2.room⟩, t2.le, t2.max, h.sees, t4, fun c p h1 _ => h1, fun hh => hh.2 rfl⟩
    refine ⟨⟨Nat × Nat × Nat × List ByteArray × List (Nat × Own), fun (i, b, cap, m, _) => [(0, .ref bk 0), (2, .int .i64 (j : Int)), (3, .int .i64 F[j].from_), (4, .arr b 0 m.length cap), (5, .int .i64 (i : Int))],
      fun (i, b, cap, m, r) S' => BkS S₀ strsT bk { B with texts := k'.kind }.cells k' r S' ∧ GrowT O' (fun c => (∃ p, (c, p) ∈ rest') ∧ c ≠ F[j].it.b) rest' r b cap m ∧ i ≤ 30 ∧ m.length = F[j].it.l.length + i, fun (i, _) => 30 - i⟩,
      ⟨(0, F[j].it.b, F[j].it.cap, F[j].it.l, rest'), ⟨rfl, rfl, rfl, rfl, rfl, trivial⟩, S₁, St.leW_refl _, h.st, hg0, by omega, by omega⟩, ?_⟩
    rintro ⟨(i : Nat), (b : Nat), (cap : Nat), (m : List ByteArray), (r : List (Nat × Own))⟩ S₂ ⟨hst, hg, hi, hml⟩
    conv => whnf
    refine split_of (fun hlt30 => ?_) (fun hlt30 => ?_)
    · have hlt30 : i < 30 := by have := of_decide_eq_true hlt30; omega
      have w2 : IntKind.i64.wrap ((i : Int) + 1) = ((i + 1 : Nat) : Int) := wrap_nat (by omega)
      conv => whnf
      refine (itoa_some hG _ (wrap_lo _) (wrap_hi _) _).mono ?_
      rintro o S' ⟨v, rfl, rfl⟩
      conv => whnf
      intro bb hbb
      conv => whnf
      obtain ⟨cells, c1, c2, c3⟩ := hg.item
      have hst1 := hst.new hbb (.tip 9 1 1)
      have hg1 : GrowT O' (fun c => (∃ p, (c, p) ∈ rest') ∧ c ≠ F[j].it.b) rest' (r ++ [(bb, .tip 9 1 1)]) b cap m :=
        ⟨⟨cells, by simp [c1], c2, c3⟩, hg.le, hg.max, hg.sees.mono (by simp +contextual), hg.low, fun c p q1 q2 => by simp [hg.kept c p q1 q2], hg.free⟩
      refine ⟨cells, hst1.get (by simp [c1]), ⟨hg.le, by show cap * 1 ≤ _; omega, hg.max, by show (_ + 1) * 16 ≤ _; omega⟩, split_of (fun hroom => ?_) (fun hroom => ?_)⟩
      · have hroom : m.length + 1 ≤ cap := by simpa using hroom
        conv => whnf
        obtain ⟨r', q1, q2⟩ := hg1.inPlace (cells := cells) hst1 (by simp [c1]) hroom v
        have e1 : setRange cells (m.length * 1) [[AV.str v]].flatten = cells.set m.length (.str v) := by show cells.set (m.length * 1) _ = _; rw [Nat.mul_one]
        rw [← e1] at q1
        exact ⟨(i + 1, b, cap, m ++ [v], r'), ⟨rfl, rfl, rfl, congrArg (fun n => AV.arr b 0 n cap) (by simp), congrArg _ w2, trivial⟩, ⟨_, St.leW_refl _, q1, q2, by omega, by simp; omega⟩, by show 30 - (i + 1) < 30 - i; omega⟩
      · have hroom : ¬ m.length + 1 ≤ cap := by simpa using hroom
        conv => whnf
        intro b' cap' hb' hc1 hc2
        conv => whnf
        obtain ⟨junk, rfl⟩ := c2
        have hmc : m.length = cap := by have := hg.le; omega
        obtain ⟨r', q1, q2⟩ := hg1.newRow hst1 (fun c hk => hk.1) hb' hc1 hc2 v (mulL 0 [AV.str ByteArray.empty] (cap' - (m.length + 1))) (by rw [mulL_length]; simp; omega)
        have e1 : (m ++ [v]).map AV.str ++ mulL 0 [AV.str ByteArray.empty] (cap' - (m.length + 1)) = (m.map AV.str ++ junk).take (m.length * 1) ++ ([[AV.str v]].flatten ++ mulL 0 (cellsOf (ofV ((C G).T 9).zero)) (cap' - (m.length + [[AV.str v]].length))) := by
          rw [Nat.mul_one, List.take_left' (by simp)]
          simp
          rfl
        rw [e1] at q1
        exact ⟨(i + 1, b', cap', m ++ [v], r'), ⟨rfl, rfl, rfl, congrArg (fun n => AV.arr b' 0 n cap') (by simp), congrArg _ w2, trivial⟩, ⟨_, St.leW_refl _, q1, q2, by omega, by simp; omega⟩, by show 30 - (i + 1) < 30 - i; omega⟩
    · have hi30 : i = 30 := by
        have : ¬ i < 30 := by have := of_decide_eq_false hlt30; omega
        omega
      subst hi30
      conv => whnf
      refine ⟨_, _, hst.book, ?_⟩
      conv => whnf
      intro b1 hb1
      conv => whnf
      have s1 := hst.new hb1 (.tip strsT 1 1)
      refine ⟨⟨fun hn => s1.tip_out hn, by show (_ + 1) * 24 ≤ _; rw [h.data.out]; simp [h.len]; omega⟩, ?_⟩
      conv => whnf
      intro S₃ e3 e3' b2 hb2
      have s2 := s1.push_out e3 e3' hb2 (.arr b 0 m.length cap) (n := k'.out.es.length + 1) rfl
      conv => whnf
      refine ⟨_, _, s2.book, ?_⟩
      rw [forceL_eq]
      conv => whnf
      refine ⟨[], (.free 0 (.free 1 (.free 2 (.free 3 (.free 4 (.free 6 (.one 5 (.one 7 (.one 8 (.one 9 (.free 10 (.free 11 (.one 12 .done .none))) .none) .none) .none) .none))))))), _, by decide +kernel, ?_, fun _ _ h => ⟨_, .inl rfl, h⟩⟩
      conv => whnf
      have s3 := s2.store (setRange { B with texts := k'.kind }.cells (0 + 13) (cellsOf (AV.sl (Sh.acc b2) 1 (k'.out.es ++ [[AV.arr b 0 m.length cap]]))))
      refine ⟨_, _, s3.book, ?_⟩
      conv => whnf
      intro b5 hb5
      conv => whnf
      have s4 := s3.new hb5 (.tip strT 1 0)
      obtain ⟨cells, c1, ⟨junk, rfl⟩, c3⟩ := hg.item
      have c2 := s4.get (b := b) (o := .obj strT (m.map AV.str ++ junk)) (by simp [c1])
      refine ⟨_, _, c2, by show 0 + m.length * 1 ≤ _; simp, ?_⟩
      rw [show rowsOf ((C G).T strT).size (List.take (m.length * ((C G).T strT).size) (List.drop 0 (m.map AV.str ++ junk))) m.length = rowsS m from rows_pre m junk]
      conv => whnf
      refine ⟨⟨St.upd_same _ _ _, by show (0 + _) * 16 ≤ _; rw [rowsS_len]; omega⟩, ?_⟩
      conv => whnf
      intro b6 hb6
      rw [St.del_upd hb5] at hb6 ⊢
      have s5 := s3.new hb6 (.tip strT 1 (0 + (rowsS m).length))
      conv => whnf
      intro b7 hb7
      conv => whnf
      have s6 := s5.new hb7 (.tip strsT 1 1)
      refine ⟨⟨fun hn => s6.tip_told hn, by show (_ + 1) * 24 ≤ _; rw [h.data.told]; simp [h.len]; omega⟩, ?_⟩
      conv => whnf
      intro S₄ e4 e4' b8 hb8
      have s7 := s6.push_told e4 e4' hb8 (.sl (.own b6) 1 (rowsS m)) (n := k'.told.es.length + 1) rfl
      conv => whnf
      refine ⟨_, _, s7.book, ?_⟩
      rw [forceL_eq]
      conv => whnf
      have s8 := s7.store (setRange (setRange { B with texts := k'.kind }.cells (0 + 13) (cellsOf (AV.sl (Sh.acc b2) 1 (k'.out.es ++ [[AV.arr b 0 m.length cap]])))) (0 + 14) (cellsOf (AV.sl (Sh.acc b8) 1 (k'.told.es ++ [[AV.sl (Sh.own b6) 1 (rowsS m)]]))))
      refine ⟨(j + 1, { k' with out := k'.out.push b2 (.arr b 0 m.length cap), told := k'.told.push b8 (.sl (.own b6) 1 (rowsS m)) }, O' ++ [⟨b, cap, m, b6⟩], _), ⟨rfl, congrArg _ w1, trivial⟩, ⟨_, St.leW_refl _, s8, ?_, hlt, ?_, fun f hf => ?_, fun c p q1 q2 => ?_, by simp [h.len]; omega, fun o ho => ?_, fun c p q1 q2 q3 o ho => ?_⟩, by show F.length - (j + 1) < F.length - j; omega⟩
      · obtain ⟨d1, d2, d3, d4, d5, d6, d7, d8⟩ := h.data
        exact ⟨d1, d2, d3, d4, by simp [AccL.push, d5], by simp [AccL.push, d6], d7, d8⟩
      · intro o ho
        rcases List.mem_append.1 ho with ho | ho
        · obtain ⟨c, q1, q2⟩ := hg.sees o ho
          exact ⟨c, by simp [q1], q2⟩
        · simp only [List.mem_singleton] at ho
          subst ho
          exact ⟨_, by simp [c1], junk, rfl⟩
      · have hne : f.it.b ≠ F[j].it.b := by
          rw [List.mem_iff_getElem?] at hf
          obtain ⟨i, hi⟩ := hf
          rw [List.getElem?_drop] at hi
          intro e
          have h1 : (F.map (·.it.b))[j + 1 + i]? = some f.it.b := by simp [hi]
          have h2 : (F.map (·.it.b))[j]? = some f.it.b := by simp [hlt, e]
          have hlt2 : j + 1 + i < (F.map (·.it.b)).length := by
            rcases Nat.lt_or_ge (j + 1 + i) (F.map (·.it.b)).length with h | h
            · exact h
            · rw [List.getElem?_eq_none h] at h1; cases h1
          have := (List.getElem?_inj hlt2 hnd).1 (h1.trans h2.symm)
          omega
        obtain ⟨q1, q2, q3, q4⟩ := h.todo f (by
          rw [List.drop_eq_getElem_cons hlt]
          exact List.mem_cons_of_mem _ hf)
        refine ⟨by simp [hg.kept _ _ q1 ⟨⟨_, q1⟩, hne⟩], q2, q3, fun o ho hob => ?_⟩
        rcases List.mem_append.1 ho with ho | ho
        · exact q4 o ho hob
        · simp only [List.mem_singleton] at ho
          subst ho
          exact absurd ⟨⟨_, by rw [show b = f.it.b from hob]; exact q1⟩, by rw [show b = f.it.b from hob]; exact hne⟩ hg.free
      · simp [hg.kept _ _ (h.kept c p q1 q2) ⟨⟨_, h.kept c p q1 q2⟩, q2 _ (List.getElem_mem hlt)⟩]
      · rcases List.mem_append.1 ho with ho | ho
        · exact h.most o ho
        · simp only [List.mem_singleton] at ho
          subst ho
          show m.length ≤ _
          omega
      · rcases List.mem_append.1 ho with ho | ho
        · exact h.apart c p q1 q2 q3 o ho
        · simp only [List.mem_singleton] at ho
          subst ho
          intro hbc
          exact hg.free ⟨⟨p, by rw [show b = c from hbc]; exact h.kept c p q1 q2⟩, by rw [show b = c from hbc]; exact q2 _ (List.getElem_mem hlt)⟩
  · have hjl : j = F.length := by
      have : k'.fresh.es.length = F.length := by rw [h.data.fresh]; simp
      have := of_decide_eq_false hlt
      have := h.le
      omega
    conv => whnf
    refine ⟨_, _, hb, ?_⟩
    rw [forceL_eq]
    conv => whnf
    have s1 := h.st.store (setRange { B with texts := k'.kind }.cells (0 + 17) [AV.nils])
    refine ⟨_, _, s1.book, ?_⟩
    rw [forceL_eq]
    conv => whnf
    have s2 := (s1.store (setRange (setRange { B with texts := k'.kind }.cells (0 + 17) [AV.nils]) (0 + 20) [AV.nils])).clear_fresh.clear_from_
    have s3 : BkS S₀ strsT bk { B with texts := { ({ k' with fresh := .empty, from_ := .empty } : KL).kind with fresh := .nils, from_ := .nils } }.cells { k' with fresh := .empty, from_ := .empty } _ _ := s2
    obtain ⟨d1, d2, d3, d4, d5, d6, d7, d8⟩ := h.data
    exact ⟨_, _, ⟨rfl, _, O', _, s3, ⟨d1, d2, d3, d4, d5, d6, rfl, rfl⟩, h.sees.mono (by simp +contextual), fun c p q1 q2 => by simp [h.kept c p q1 q2], by rw [h.len, hjl], h.most, h.apart⟩, St.le_refl _, AV.leS_refl _ _ _⟩
end Go.Proofs.YtikkoaoibomofaaGreatDoor.Aw

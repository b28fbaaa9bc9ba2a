/-
  The log that is written: what it holds; a step laid down (write.lines.lay), walked.
  The log that is written: numbers as words; a step that adds a row; its calls, walked.
  The log that is written: its calls, walked.
  The log that is written: its conclusion, walked.
  Calls of a log as arguments: how they are counted (hallmarklaw16.few), walked; what they weigh.
  What the calls of a log weigh, plain.
  The log that is written: its end and its beginning, walked; how it grows.
  The log that is written: its beginning; hallmarklaw16.known, walked.
  A call of a log, plain: what it leaves.
-/
import Derived.Test.YtcpdgnkhkdddhaaGreatDoorWrd14
set_option maxRecDepth 100000
set_option linter.unusedVariables false
set_option linter.unusedSimpArgs false
namespace Go.Proofs.YtcpdgnkhkdddhaaGreatDoor.Aw
open Go Go.RowKit
variable {G : Nat → Option (List AV)}

theorem RelL.agAt {w : World} {rd : Nat → Nat → Prop} {xs ys bs : List AV} (hle : leL xs ys) : ∀ (ls : List AV) (vs : List Value), RelL w rd (ls ++ .ag xs :: bs) vs → RelL w rd (ls ++ .ag ys :: bs) vs
  | [], vs, h => by
    simp only [List.nil_append, RelL, Rel] at h ⊢
    obtain ⟨u, us, e1, ⟨cs, e2, r1, r2⟩, e3⟩ := h
    exact ⟨u, us, e1, ⟨cs, e2, leL_sound hle r1, r2⟩, e3⟩
  | a :: ls, vs, h => by
    simp only [List.cons_append, RelL] at h ⊢
    obtain ⟨u, us, e1, e2, e3⟩ := h
    exact ⟨u, us, e1, e2, RelL.agAt hle ls us e3⟩
/-- A contract with a weaker argument, a struct, at any place. -/
theorem Triple.argAt {C : Cx} {f : FuncId} {xs ys : List AV} (ls bs : List AV) {S : St} {Q : Out → St → Prop} (h : Triple P C f (ls ++ .ag ys :: bs) S Q) (hle : leL xs ys) : Triple P C f (ls ++ .ag xs :: bs) S Q :=
  ⟨fun w vs hY hg hr => h.out w vs hY hg (RelL.agAt hle ls _ hr)⟩

structure LogV where
  st : List StepV
  over : Bool
  next : Int
  goal : Bool
def logT (st : List StepV) : List UInt8 := logB (st.map textT)
/-- A step is laid down, if it has a line. -/
def layV (w : LogV) (v : StepV) : Int × LogV := if w.over then (161, w) else if (printP v).2 = 0 then (0, { w with st := w.st ++ [v] }) else (160, w)
def logC (w : LogV) (b1 b2 : Nat) : List AV := [.sl (.acc b1) 10 (rowsT w.st), .sl (.acc b2) 1 (rowsL (logT w.st)), .bool w.over, .int .i64 w.next, .bool w.goal]
/-- What a log's block holds, and how far its two rows go. -/
structure LogB (S₀ S : St) (wb : Nat) (cells : List AV) (b1 n1 b2 n2 : Nat) : Prop where
  le : St.le S₀ S
  new : S₀ wb = none
  at_ : S wb = some (.obj 106 cells)
  t1 : TipOk S₀ S b1 54 10 n1
  t2 : TipOk S₀ S b2 5 1 n2
theorem LogB.acc1 {S₀ S S' : St} {wb b1 n1 b2 n2 b m : Nat} {cells : List AV} (h : LogB S₀ S wb cells b1 n1 b2 n2) (ha : AccStep S b1 54 10 n1 m b S') : LogB S₀ S' wb cells b (n1 + m) b2 n2 := by
  have ht : 0 < n1 → S b1 = some (.tip 54 10 n1) := fun hn => (h.t1 hn).1
  obtain ⟨k1, k2⟩ := AccStep.tipOk h.t1 h.le ha
  exact ⟨k2, h.new, AccStep.other ht ha h.at_ (by intro n' e; cases e), k1, h.t2.keep' ht ha (by decide)⟩
theorem LogB.acc2 {S₀ S S' : St} {wb b1 n1 b2 n2 b m : Nat} {cells : List AV} (h : LogB S₀ S wb cells b1 n1 b2 n2) (ha : AccStep S b2 5 1 n2 m b S') : LogB S₀ S' wb cells b1 n1 b (n2 + m) := by
  have ht : 0 < n2 → S b2 = some (.tip 5 1 n2) := fun hn => (h.t2 hn).1
  obtain ⟨k1, k2⟩ := AccStep.tipOk h.t2 h.le ha
  exact ⟨k2, h.new, AccStep.other ht ha h.at_ (by intro n' e; cases e), h.t1.keep' ht ha (by decide), k1⟩
theorem LogB.grow {S₀ S S' : St} {wb b1 n1 b2 n2 : Nat} {cells : List AV} (h : LogB S₀ S wb cells b1 n1 b2 n2) (hk : ∀ x p, S x = some p → S' x = some p) : LogB S₀ S' wb cells b1 n1 b2 n2 :=
  ⟨fun x p e => hk _ _ (h.le x p e), h.new, hk _ _ h.at_, h.t1.keep (hk _), h.t2.keep (hk _)⟩
theorem LogB.more {S₀ S : St} {wb b1 n1 b2 n2 b : Nat} {cells : List AV} (h : LogB S₀ S wb cells b1 n1 b2 n2) (hb : S b = none) (o : Own) : LogB S₀ (S.upd b o) wb cells b1 n1 b2 n2 :=
  h.grow fun x p hx => by rw [St.upd_ne _ _ _ _ (St.ne_of hb hx)]; exact hx
theorem LogB.put {S₀ S : St} {wb b1 n1 b2 n2 : Nat} {cells : List AV} (h : LogB S₀ S wb cells b1 n1 b2 n2) (cells' : List AV) : LogB S₀ (S.upd wb (.obj 106 cells')) wb cells' b1 n1 b2 n2 :=
  ⟨St.le_upd h.le h.new _, h.new, St.upd_same _ _ _, h.t1.upd h.at_ _, h.t2.upd h.at_ _⟩
theorem TipOk.over {S₀ S : St} {b x : Nat} {e : TypeId} {k n : Nat} (h : TipOk S₀ S b e k n) (hx : S x = none ∨ ∃ o, S₀ x = some o) (o : Own) : TipOk (S₀.upd x o) (S.upd x o) b e k n := fun hn => by
  obtain ⟨h1, h2⟩ := h hn
  have : b ≠ x := by
    rintro rfl
    rcases hx with hx | ⟨o', hx⟩
    · rw [hx] at h1; cases h1
    · rw [hx] at h2; cases h2
  exact ⟨by rw [St.upd_ne _ _ _ _ this]; exact h1, by rw [St.upd_ne _ _ _ _ this]; exact h2⟩
/-- What else is there is written over, or laid beside it, on both sides. -/
theorem LogB.over {S₀ S : St} {wb b1 n1 b2 n2 x : Nat} {cells : List AV} (h : LogB S₀ S wb cells b1 n1 b2 n2) (hx : S x = none ∨ ∃ o, S₀ x = some o) (o : Own) : LogB (S₀.upd x o) (S.upd x o) wb cells b1 n1 b2 n2 := by
  have hne : wb ≠ x := by
    rintro rfl
    rcases hx with hx | ⟨o', hx⟩
    · rw [h.at_] at hx; cases hx
    · rw [h.new] at hx; cases hx
  exact ⟨St.le_upd2 h.le _ _, by rw [St.upd_ne _ _ _ _ hne]; exact h.new, by rw [St.upd_ne _ _ _ _ hne]; exact h.at_, h.t1.over hx o, h.t2.over hx o⟩
def Log (S₀ S : St) (wb : Nat) (w : LogV) : Prop := ∃ b1 b2, LogB S₀ S wb (logC w b1 b2) b1 w.st.length b2 (logT w.st).length
theorem Log.more {S₀ S : St} {wb b : Nat} {w : LogV} (h : Log S₀ S wb w) (hb : S b = none) (o : Own) : Log S₀ (S.upd b o) wb w := by
  obtain ⟨b1, b2, h⟩ := h
  exact ⟨b1, b2, h.more hb o⟩
theorem Log.over {S₀ S : St} {wb x : Nat} {w : LogV} (h : Log S₀ S wb w) (hx : S x = none ∨ ∃ o, S₀ x = some o) (o : Own) : Log (S₀.upd x o) (S.upd x o) wb w := by
  obtain ⟨b1, b2, h⟩ := h
  exact ⟨b1, b2, h.over hx o⟩
theorem logT_snoc (st : List StepV) (v : StepV) : logT (st ++ [v]) = (logT st ++ (textT v).data.toList) ++ [10] := by
  unfold logT logB
  rw [List.map_append, List.flatMap_append]
  simp
theorem rowsT_snoc (st : List StepV) (v : StepV) : rowsT st ++ [stepR v] = rowsT (st ++ [v]) := by simp [rowsT]
theorem printP_parse {v : StepV} (h : (printP v).2 = 0) : (printP v).1 = textT v ∧ parseP (textT v) = (v, 0) := ⟨(printP_zero h).1, (printP_zero h).2.1⟩
theorem lay_over {S₀ S : St} {wb : Nat} {st : List StepV} {next : Int} {goal : Bool} (h : Log S₀ S wb ⟨st, true, next, goal⟩) (v : StepV) (hn : st.length ≤ 1000000) (hsz : (logT st).length ≤ 1000000000) :
    Triple P (C G) 70 [.ref wb 0, stepAV v] S fun o S' => o = .ret (.int .i64 161) ∧ Log S₀ S' wb ⟨st, true, next, goal⟩ := by
  obtain ⟨b1, b2, h⟩ := h
  have h1 := h.at_
  unfold logC at h h1
  dsimp only at h h1 hn hsz
  refine triple_of_awp (hT G) hm Tryz.func70 rfl (by decide +kernel) rfl (by decide +kernel) (by show 2 ≤ _; decide +kernel) rfl ?_
  refine awp_seq2 fun K hK hQ => ?_
  conv => whnf
  intro b hb
  conv => whnf
  refine hK _ _ ?_
  clear hK hQ K
  have hB := h.more hb (.obj 54 (stepR v))
  have hq := St.upd_same S b (.obj 54 (stepR v))
  unfold stepR at hB hq
  change awp _ _ _ _ (S.upd b (.obj 54 [.int .i64 v.kind, .str v.num, .sl .any 3 (rowsO v.ops), .sl .any 2 (rowsP v.pieces), .str v.bound, .sl .any 1 (rowsI v.lits), .sl .any 1 (rowsS v.ids), .int .i64 v.n6, .str v.s7, .str v.s8])) _
  generalize S.upd b (.obj 54 [.int .i64 v.kind, .str v.num, .sl .any 3 (rowsO v.ops), .sl .any 2 (rowsP v.pieces), .str v.bound, .sl .any 1 (rowsI v.lits), .sl .any 1 (rowsS v.ids), .int .i64 v.n6, .str v.s7, .str v.s8]) = F at *
  have hS := hB.at_
  refine awp_seq2 fun K hK hQ => ?_
  conv => whnf
  refine ⟨_, _, hS, ?_⟩
  conv => whnf
  refine hQ _ _ _ (by simp) ?_
  conv => whnf
  exact ⟨_, _, ⟨rfl, b1, b2, hB⟩, St.le_refl _, AV.leS_refl _ _ _⟩
theorem lay_bad (hG : GS G) (hA : GAs G) {S₀ S : St} {wb : Nat} {st : List StepV} {next : Int} {goal : Bool} (h : Log S₀ S wb ⟨st, false, next, goal⟩) (v : StepV) (ho : OkStep v) (ht : (textT v).size ≤ 8999999) (hn : st.length ≤ 1000000) (hsz : (logT st).length ≤ 1000000000) (he : (printP v).2 ≠ 0) :
    Triple P (C G) 70 [.ref wb 0, stepAV v] S fun o S' => o = .ret (.int .i64 160) ∧ Log S₀ S' wb ⟨st, false, next, goal⟩ := by
  have hpr := fun S => Print_ok (G := G) hG hA v ho ht (parseP_len _ ht) S
  generalize (printP v).2 = e at *
  generalize (printP v).1 = tx at *
  obtain ⟨b1, b2, h⟩ := h
  have h1 := h.at_
  unfold logC at h h1
  dsimp only at h h1 hn hsz
  refine triple_of_awp (hT G) hm Tryz.func70 rfl (by decide +kernel) rfl (by decide +kernel) (by show 2 ≤ _; decide +kernel) rfl ?_
  refine awp_seq2 fun K hK hQ => ?_
  conv => whnf
  intro b hb
  conv => whnf
  refine hK _ _ ?_
  clear hK hQ K
  have hB := h.more hb (.obj 54 (stepR v))
  have hq := St.upd_same S b (.obj 54 (stepR v))
  unfold stepR at hB hq
  change awp _ _ _ _ (S.upd b (.obj 54 [.int .i64 v.kind, .str v.num, .sl .any 3 (rowsO v.ops), .sl .any 2 (rowsP v.pieces), .str v.bound, .sl .any 1 (rowsI v.lits), .sl .any 1 (rowsS v.ids), .int .i64 v.n6, .str v.s7, .str v.s8])) _
  generalize S.upd b (.obj 54 [.int .i64 v.kind, .str v.num, .sl .any 3 (rowsO v.ops), .sl .any 2 (rowsP v.pieces), .str v.bound, .sl .any 1 (rowsI v.lits), .sl .any 1 (rowsS v.ids), .int .i64 v.n6, .str v.s7, .str v.s8]) = F at *
  have hS := hB.at_
  refine awp_seq2 fun K hK hQ => ?_
  conv => whnf
  refine ⟨_, _, hS, ?_⟩
  conv => whnf
  refine hK _ _ ?_
  clear hK hQ K
  refine awp_seq2 fun K hK hQ => ?_
  conv => whnf
  refine ⟨_, _, hq, ?_⟩
  conv => whnf
  refine (hpr _).mono ?_
  rintro o T ⟨rfl, rfl⟩
  conv => whnf
  refine hK _ _ ?_
  clear hK hQ K
  refine awp_seq2 fun K hK hQ => ?_
  conv => whnf
  rw [show (e != 0) = true from by simpa using he]
  conv => whnf
  refine hQ _ _ _ (by simp) ?_
  conv => whnf
  exact ⟨_, _, ⟨rfl, b1, b2, hB⟩, St.le_refl _, AV.leS_refl _ _ _⟩
theorem lay_good (hG : GS G) (hA : GAs G) {S₀ S : St} {wb : Nat} {st : List StepV} {next : Int} {goal : Bool} (h : Log S₀ S wb ⟨st, false, next, goal⟩) (v : StepV) (ho : OkStep v) (ht : (textT v).size ≤ 8999999) (hn : st.length ≤ 1000000) (hsz : (logT st).length ≤ 1000000000) (he : (printP v).2 = 0) :
    Triple P (C G) 70 [.ref wb 0, stepAV v] S fun o S' => o = .ret (.int .i64 0) ∧ Log S₀ S' wb ⟨st ++ [v], false, next, goal⟩ := by
  have hpr := fun S => Print_ok (G := G) hG hA v ho ht (parseP_len _ ht) S
  obtain ⟨p1, p2⟩ := printP_parse he
  have hpa := fun S => Parse_line_ok (G := G) hG hA (textT v) ht S
  rw [p2] at hpa
  rw [p1, he] at hpr
  have hlt := logT_snoc st v
  generalize textT v = tx at *
  clear he p1 p2
  obtain ⟨b1, b2, h⟩ := h
  have h1 := h.at_
  unfold logC at h h1
  dsimp only at h h1 hn hsz
  refine triple_of_awp (hT G) hm Tryz.func70 rfl (by decide +kernel) rfl (by decide +kernel) (by show 2 ≤ _; decide +kernel) rfl ?_
  refine awp_seq2 fun K hK hQ => ?_
  conv => whnf
  intro b hb
  conv => whnf
  refine hK _ _ ?_
  clear hK hQ K
  have hB := h.more hb (.obj 54 (stepR v))
  have hq := St.upd_same S b (.obj 54 (stepR v))
  unfold stepR at hB hq
  change awp _ _ _ _ (S.upd b (.obj 54 [.int .i64 v.kind, .str v.num, .sl .any 3 (rowsO v.ops), .sl .any 2 (rowsP v.pieces), .str v.bound, .sl .any 1 (rowsI v.lits), .sl .any 1 (rowsS v.ids), .int .i64 v.n6, .str v.s7, .str v.s8])) _
  generalize S.upd b (.obj 54 [.int .i64 v.kind, .str v.num, .sl .any 3 (rowsO v.ops), .sl .any 2 (rowsP v.pieces), .str v.bound, .sl .any 1 (rowsI v.lits), .sl .any 1 (rowsS v.ids), .int .i64 v.n6, .str v.s7, .str v.s8]) = F at *
  have hS := hB.at_
  refine awp_seq2 fun K hK hQ => ?_
  conv => whnf
  refine ⟨_, _, hS, ?_⟩
  conv => whnf
  refine hK _ _ ?_
  clear hK hQ K
  refine awp_seq2 fun K hK hQ => ?_
  conv => whnf
  refine ⟨_, _, hq, ?_⟩
  conv => whnf
  refine (hpr _).mono ?_
  rintro o T ⟨rfl, rfl⟩
  conv => whnf
  refine hK _ _ ?_
  clear hK hQ K
  refine awp_seq2 fun K hK hQ => ?_
  conv => whnf
  refine hK _ _ ?_
  clear hK hQ K
  refine awp_seq2 fun K hK hQ => ?_
  conv => whnf
  refine (hpa _).mono ?_
  rintro o T2 ⟨rfl, rfl⟩
  conv => whnf
  intro b7 hb7
  conv => whnf
  refine ⟨_, _, St.upd_same _ _ _, ?_⟩
  conv => whnf
  rw [St.upd_upd]
  refine hK _ _ ?_
  clear hK hQ K
  have hB7 := hB.more hb7 (.obj 54 (stepR v))
  have q7 := St.upd_same T2 b7 (.obj 54 (stepR v))
  unfold stepR at hB7 q7
  change awp _ _ _ _ (T2.upd b7 (.obj 54 [.int .i64 v.kind, .str v.num, .sl .any 3 (rowsO v.ops), .sl .any 2 (rowsP v.pieces), .str v.bound, .sl .any 1 (rowsI v.lits), .sl .any 1 (rowsS v.ids), .int .i64 v.n6, .str v.s7, .str v.s8])) _
  generalize T2.upd b7 (.obj 54 [.int .i64 v.kind, .str v.num, .sl .any 3 (rowsO v.ops), .sl .any 2 (rowsP v.pieces), .str v.bound, .sl .any 1 (rowsI v.lits), .sl .any 1 (rowsS v.ids), .int .i64 v.n6, .str v.s7, .str v.s8]) = F7 at *
  refine awp_seq2 fun K hK hQ => ?_
  refine ⟨[], (.free 0 (.free 1 (.free 2 (.free 3 (.free 4 (.free 5 (.one 6 (.one 7 (.free 8 (.free 9 (.one 10 .done .none))) .none) .none))))))), _, by decide +kernel, ?_, fun _ _ h => ⟨_, .inl rfl, h⟩⟩
  conv => whnf
  refine ⟨_, _, hB7.at_, ?_⟩
  conv => whnf
  refine ⟨_, _, q7, ?_⟩
  conv => whnf
  intro bb hbb
  conv => whnf
  have hB8 := hB7.more hbb (.tip 54 10 1)
  have hby : ((C G).T 54).bytes = 176 := rfl
  refine ⟨⟨fun hl => ?_, ?_⟩, fun S3 c1 c2 b' c3 => ?_⟩
  · have : 0 < st.length := by rw [← rowsT_len]; exact List.length_pos_iff.2 hl
    rw [rowsT_len]; exact (hB8.t1 this).1
  · rw [hby, rowsT_len]
    show (st.length + 1) * 176 ≤ _
    omega
  have ha : AccStep (F7.upd bb (.tip 54 10 1)) b1 54 10 st.length 1 b' (S3.upd b' (.tip 54 10 (st.length + 1))) := .inr ⟨by omega, S3, fun e => c1 (by rw [List.eq_nil_of_length_eq_zero e]; rfl), fun e => c2 (by intro h0; have := congrArg List.length h0; rw [rowsT_len] at this; rw [this] at e; exact absurd e (Nat.lt_irrefl 0)), c3, rfl⟩
  have hB9 := hB8.acc1 ha
  have er := rowsT_snoc st v
  unfold stepR at er
  rw [er, rowsT_len]
  conv => whnf
  refine ⟨_, _, hB9.at_, ?_⟩
  conv => whnf
  refine hK _ _ ?_
  clear hK hQ K
  have hBa := hB9.put [.sl (.acc b') 10 (rowsT (st ++ [v])), .sl (.acc b2) 1 (rowsL (logT st)), .bool false, .int .i64 next, .bool goal]
  change awp _ _ _ _ ((S3.upd b' (.tip 54 10 (st.length + 1))).upd wb (.obj 106 [.sl (.acc b') 10 (rowsT (st ++ [v])), .sl (.acc b2) 1 (rowsL (logT st)), .bool false, .int .i64 next, .bool goal])) _
  generalize (S3.upd b' (.tip 54 10 (st.length + 1))).upd wb (.obj 106 [.sl (.acc b') 10 (rowsT (st ++ [v])), .sl (.acc b2) 1 (rowsL (logT st)), .bool false, .int .i64 next, .bool goal]) = F9 at *
  have hxl : tx.data.toList.length = tx.size := by rw [Array.length_toList]; rfl
  refine awp_seq2 fun K hK hQ => ?_
  conv => whnf
  refine ⟨_, _, hBa.at_, ?_⟩
  conv => whnf
  refine ⟨⟨fun hl => ?_, ?_⟩, fun t' S2 ha2 => ?_⟩
  · rw [rowsL_len] at hl ⊢; exact (hBa.t2 hl).1
  · show ((rowsL (logT st)).length + (rowsB tx).length) * 1 ≤ _
    rw [rowsL_len, rowsB_L, rowsL_len, hxl]; omega
  rw [rowsL_len, rowsB_L, rowsL_len] at ha2
  have hBb := hBa.acc2 ha2
  rw [rowsB_L, rowsL_append]
  conv => whnf
  intro bc hbc
  have hBc := hBb.more hbc (.tip 5 1 1)
  conv => whnf
  refine ⟨⟨fun hl => ?_, ?_⟩, fun S5 c1 c2 t2 c3 => ?_⟩
  · rw [rowsL_len]
    refine (hBc.t2 ?_).1.trans ?_
    · have := List.length_pos_iff.2 hl
      rw [rowsL_len, List.length_append] at this
      omega
    · rw [List.length_append]; rfl
  · show ((rowsL (logT st ++ tx.data.toList)).length + 1) * 1 ≤ _
    rw [rowsL_len, List.length_append, hxl]; omega
  have ha3 : AccStep (S2.upd bc (.tip 5 1 1)) t' 5 1 ((logT st).length + tx.data.toList.length) 1 t2 (S5.upd t2 (.tip 5 1 ((logT st).length + tx.data.toList.length + 1))) := .inr ⟨by omega, S5, fun e => c1 (by rw [List.eq_nil_of_length_eq_zero (show (logT st ++ tx.data.toList).length = 0 from by rw [List.length_append]; exact e)]; rfl), fun e => c2 (rowsL_ne (by intro h0; have := congrArg List.length h0; rw [List.length_append] at this; rw [this] at e; exact absurd e (Nat.lt_irrefl 0))), c3, rfl⟩
  have hBd := hBc.acc2 ha3
  have er2 : rowsL (logT st ++ tx.data.toList) ++ [[.int .u8 10]] = rowsL (logT (st ++ [v])) := by rw [hlt]; simp [rowsL]
  rw [er2, rowsL_len, List.length_append]
  conv => whnf
  refine ⟨_, _, hBd.at_, ?_⟩
  conv => whnf
  refine hK _ _ ?_
  clear hK hQ K
  have hBe := hBd.put [.sl (.acc b') 10 (rowsT (st ++ [v])), .sl (.acc t2) 1 (rowsL (logT (st ++ [v]))), .bool false, .int .i64 next, .bool goal]
  conv => whnf
  refine ⟨_, _, ⟨rfl, b', t2, ?_⟩, St.le_refl _, AV.leS_refl _ _ _⟩
  unfold logC
  rw [show (st ++ [v]).length = st.length + 1 by simp, show (logT (st ++ [v])).length = (logT st).length + tx.data.toList.length + 1 by rw [hlt]; simp only [List.length_append, List.length_cons, List.length_nil]]
  exact hBe
end Go.Proofs.YtcpdgnkhkdddhaaGreatDoor.Aw

set_option maxRecDepth 100000
set_option linter.unusedVariables false
set_option linter.unusedSimpArgs false
namespace Go.Proofs.YtcpdgnkhkdddhaaGreatDoor.Aw
open Go Go.RowKit
variable {G : Nat → Option (List AV)}

def decL (l : List Int) : List ByteArray := l.map itoaS
theorem decimals_ok (hG : G10 G) (l : List Int) (hl : ∀ z ∈ l, okI z) (hn : l.length ≤ 100000000) (S : St) : Triple P (C G) 73 [.sl .any 1 (rowsI l)] S fun o S' => o = .ret (.sl .any 1 (rowsS (decL l))) ∧ S' = S := by
  refine triple_of_awp (hT G) hm Tryz.func73 rfl (by decide +kernel) rfl (by decide +kernel) (by show 1 ≤ _; decide +kernel) rfl ?_
  conv => whnf
  intro _
  conv => whnf
  refine ⟨⟨Nat × Nat, fun (i, ba) => [(3, .sl (.acc ba) 1 (rowsS (decL (l.take i)))), (6, .sl .any 1 (rowsI l)), (7, .int .i64 (l.length : Int)), (8, .int .i64 (i : Int))],
    fun (i, ba) S1 => AccOk S S1 9 1 ba (decL (l.take i)).length ∧ i ≤ l.length, fun (i, _) => l.length - i⟩,
    ⟨(0, 0), ⟨rfl, ⟨rfl, rfl⟩, congrArg (AV.int .i64) (by rw [rowsI_len]), rfl, trivial⟩, _, St.leW_refl _, AccOk.init _ _ _ _, by omega⟩, ?_⟩
  rintro ⟨i, ba⟩ S1 ⟨h1, h2⟩
  have hlen : (decL (l.take i)).length = i := by simp [decL]; omega
  conv => whnf
  refine split_of (fun hlt => ?_) (fun hlt => ?_)
  · have hlt : i < l.length := by have := of_decide_eq_true hlt; omega
    have hsn : decL (l.take (i + 1)) = decL (l.take i) ++ [itoaS l[i]] := by rw [List.take_add_one, decL, List.map_append]; simp [decL, hlt]
    have hz := hl _ (List.getElem_mem hlt)
    have hgr : (rowsI l)[(i : Int).toNat]? = some [.int .i64 l[i]] := by simp [rowsI, hlt]
    generalize l[i] = z at *
    conv => whnf
    refine ⟨_, ⟨by omega, hgr⟩, ?_⟩
    conv => whnf
    refine (itoa_ok hG z hz.1 hz.2 _).mono ?_
    rintro o T ⟨rfl, rfl⟩
    conv => whnf
    intro bb hbb
    have h1' := h1.other hbb (.tip 9 1 1)
    conv => whnf
    refine ⟨⟨fun hl => ?_, ?_⟩, fun S4 c1 c2 b' c3 => ?_⟩
    · have : 0 < (decL (l.take i)).length := by
        cases hx : decL (l.take i) with
        | nil => rw [hx] at hl; exact absurd rfl hl
        | cons _ _ => simp
      rw [rowsS_len]; exact h1'.tip this
    · show ((rowsS (decL (l.take i))).length + 1) * 16 ≤ _
      rw [rowsS_len]; omega
    have h5 := h1'.push (m := (decL (l.take i)).length + 1) (by rw [rowsS_len]) c1 c2 c3 rfl
    rw [rowsS_len]
    have w1 : IntKind.i64.wrap ((i : Int) + 1) = ((i + 1 : Nat) : Int) := wrap_nat (by omega)
    conv => whnf
    refine ⟨(i + 1, b'), ⟨congrArg (AV.sl (.acc b') 1) (show rowsS (decL (l.take i)) ++ [[AV.str (itoaS z)]] = rowsS (decL (l.take (i + 1))) by rw [hsn]; exact rowsS_snoc _ _), ⟨rfl, rfl⟩, rfl, congrArg _ w1, trivial⟩, ⟨_, St.leW_refl _, by rw [hsn, show (decL (l.take i) ++ [itoaS z]).length = (decL (l.take i)).length + 1 by simp]; exact h5, by show i + 1 ≤ _; omega⟩, by show l.length - (i + 1) < l.length - i; omega⟩
  · have hlt : i = l.length := by have := of_decide_eq_false hlt; omega
    subst hlt
    conv => whnf
    refine ⟨_, _, ⟨rfl, rfl⟩, h1.le, ⟨rfl, by rw [List.take_length]⟩⟩

/-- A step that adds a row, if it does. -/
def addsV (w : LogV) (v : StepV) (row : Bool) : (Int × Int) × LogV :=
  let r := layV w v
  if r.1 ≠ 0 then ((0, r.1), r.2) else if row then ((r.2.next, 0), { r.2 with next := r.2.next + 1 }) else ((0, 0), r.2)
/-- What is asked of a step and of the log, so that it can be laid down. -/
structure Fits (w : LogV) (v : StepV) : Prop where
  ok : OkStep v
  text : (textT v).size ≤ 8999999
  len : w.st.length ≤ 1000000
  size : (logT w.st).length ≤ 1000000000
theorem lay_ok (hG : GS G) (hA : GAs G) {S₀ S : St} {wb : Nat} {w : LogV} (h : Log S₀ S wb w) {v : StepV} (hf : Fits w v) {xs : List AV} (hx : leL xs (stepR v)) :
    Triple P (C G) 70 [.ref wb 0, .ag xs] S fun o S' => o = .ret (.int .i64 (layV w v).1) ∧ Log S₀ S' wb (layV w v).2 := by
  obtain ⟨st, over, next, goal⟩ := w
  obtain ⟨ho, ht, hn, hsz⟩ := hf
  refine Triple.argAt [.ref wb 0] [] ?_ hx
  unfold layV
  cases over with
  | true => exact lay_over h v hn hsz
  | false =>
    by_cases he : (printP v).2 = 0
    · rw [if_neg (by simp), if_pos he]
      exact lay_good hG hA h v ho ht hn hsz he
    · rw [if_neg (by simp), if_neg he]
      exact lay_bad hG hA h v ho ht hn hsz he
theorem layV_code (w : LogV) (v : StepV) : (layV w v).1 = 0 ∨ (layV w v).1 = 160 ∨ (layV w v).1 = 161 := by
  unfold layV; split
  · exact .inr (.inr rfl)
  split
  · exact .inl rfl
  · exact .inr (.inl rfl)
theorem adds_ok (hG : GS G) (hA : GAs G) {S₀ S : St} {wb : Nat} {w : LogV} (h : Log S₀ S wb w) {v : StepV} (hf : Fits w v) {xs : List AV} (hx : leL xs (stepR v)) (row : Bool) (hnx : 0 ≤ w.next ∧ w.next ≤ 4611686018427387904) :
    Triple P (C G) 72 [.ref wb 0, .ag xs, .bool row] S fun o S' => o = .ret (.tu [.int .i64 (addsV w v row).1.1, .int .i64 (addsV w v row).1.2]) ∧ Log S₀ S' wb (addsV w v row).2 := by
  refine Triple.argAt [.ref wb 0] [.bool row] ?_ hx
  clear hx
  have hl := fun {S₀ S : St} (h : Log S₀ S wb w) => lay_ok (G := G) hG hA h hf (leL_refl _)
  have hcode := layV_code w v
  have hln : (layV w v).2.next = w.next := by unfold layV; split; rfl; split <;> rfl
  unfold addsV
  generalize layV w v = r at *
  obtain ⟨e, w2⟩ := r
  dsimp only at hl hcode hln ⊢
  show Triple P (C G) 72 [.ref wb 0, stepAV v, .bool row] S _
  refine triple_of_awp (hT G) hm Tryz.func72 rfl (by decide +kernel) rfl (by decide +kernel) (by show 3 ≤ _; decide +kernel) rfl ?_
  refine awp_seq2 fun K hK hQ => ?_
  conv => whnf
  intro b hb
  conv => whnf
  refine hK _ _ ?_
  clear hK hQ K
  refine awp_seq2 fun K hK hQ => ?_
  conv => whnf
  refine hK _ _ ?_
  clear hK hQ K
  have hB := h.more hb (.obj 54 (stepR v))
  have hq := St.upd_same S b (.obj 54 (stepR v))
  refine awp_seq2 fun K hK hQ => ?_
  conv => whnf
  refine ⟨_, _, hq, ?_⟩
  conv => whnf
  refine (hl hB).mono ?_
  rintro o T ⟨rfl, hB2⟩
  clear hB hq
  obtain ⟨st2, ov2, n2, g2⟩ := w2
  obtain ⟨c1, c2, hL⟩ := hB2
  have hat := hL.at_
  unfold logC at hat hL
  dsimp only at hat hL hln
  subst hln
  rcases hcode with rfl | rfl | rfl
  · cases row with
    | false =>
      conv => whnf
      refine hQ _ _ _ (by simp) ?_
      conv => whnf
      exact ⟨_, _, ⟨rfl, c1, c2, hL⟩, St.le_refl _, AV.leS_refl _ _ _⟩
    | true =>
      conv => whnf
      refine hK _ _ ?_
      clear hK hQ K
      have w1 : IntKind.i64.wrap (w.next + 1) = w.next + 1 := wrap_i64 (by omega) (by omega)
      have w2 : IntKind.i64.wrap (w.next + 1 - 1) = w.next := by rw [show w.next + 1 - 1 = w.next by omega]; exact wrap_i64 (by omega) (by omega)
      refine awp_seq2 fun K hK hQ => ?_
      conv => whnf
      refine ⟨_, _, hat, ?_⟩
      conv => whnf
      refine ⟨_, _, hat, ?_⟩
      conv => whnf
      refine hK _ _ ?_
      clear hK hQ K
      rw [w1]
      conv => whnf
      refine ⟨_, _, St.upd_same _ _ _, ?_⟩
      conv => whnf
      rw [w2]
      exact ⟨_, _, ⟨rfl, c1, c2, hL.put _⟩, St.le_refl _, AV.leS_refl _ _ _⟩
  · conv => whnf
    refine hQ _ _ _ (by simp) ?_
    conv => whnf
    exact ⟨_, _, ⟨rfl, c1, c2, hL⟩, St.le_refl _, AV.leS_refl _ _ _⟩
  · conv => whnf
    refine hQ _ _ _ (by simp) ?_
    conv => whnf
    exact ⟨_, _, ⟨rfl, c1, c2, hL⟩, St.le_refl _, AV.leS_refl _ _ _⟩
end Go.Proofs.YtcpdgnkhkdddhaaGreatDoor.Aw

set_option maxRecDepth 100000
set_option linter.unusedVariables false
set_option linter.unusedSimpArgs false
namespace Go.Proofs.YtcpdgnkhkdddhaaGreatDoor.Aw
open Go Go.RowKit
variable {G : Nat → Option (List AV)}

def rupS (ps : List (ByteArray × Int)) (bound : ByteArray) (ids : List ByteArray) : StepV := { zeroV with kind := 4, pieces := ps, bound := bound, ids := ids }
def polS (ops : List OpV) : StepV := { zeroV with kind := 3, ops := ops }
def soliS (l : List Int) : StepV := { zeroV with kind := 5, lits := l }
def solxS (l : List Int) : StepV := { zeroV with kind := 11, lits := l }
def sameS (ps : List (ByteArray × Int)) (bound : ByteArray) (ids : List ByteArray) : StepV := { zeroV with kind := 12, pieces := ps, bound := bound, ids := ids }
def delS (ids : List ByteArray) : StepV := { zeroV with kind := 6, ids := ids }
def kindS (k : Int) : StepV := { zeroV with kind := k }
def countS (n : ByteArray) : StepV := { zeroV with kind := 2, num := n }
def OkNext (w : LogV) : Prop := 0 ≤ w.next ∧ w.next ≤ 4611686018427387904
theorem Rup_ok (hG : GS G) (hA : GAs G) {S₀ S : St} {wb : Nat} {w : LogV} (h : Log S₀ S wb w) (ps : List (ByteArray × Int)) (bound : ByteArray) (l : List Int) (hl : ∀ z ∈ l, okI z) (hn : l.length ≤ 100000000) (hf : Fits w (rupS ps bound (decL l))) (hx : OkNext w) :
    Triple P (C G) 25 [.ref wb 0, .ag [.sl .any 2 (rowsP ps), .str bound], .sl .any 1 (rowsI l)] S fun o S' => o = .ret (.tu [.int .i64 (addsV w (rupS ps bound (decL l)) true).1.1, .int .i64 (addsV w (rupS ps bound (decL l)) true).1.2]) ∧ Log S₀ S' wb (addsV w (rupS ps bound (decL l)) true).2 := by
  have hd := fun S => decimals_ok (G := G) hG.tab l hl hn S
  refine triple_of_awp (hT G) hm Tryz.func25 rfl (by decide +kernel) rfl (by decide +kernel) (by show 3 ≤ _; decide +kernel) rfl ?_
  refine awp_seq2 fun K hK hQ => ?_
  conv => whnf
  intro b hb
  conv => whnf
  refine hK _ _ ?_
  clear hK hQ K
  have hB := h.more hb (.obj 51 [.sl .any 2 (rowsP ps), .str bound])
  have q := St.upd_same S b (.obj 51 [.sl .any 2 (rowsP ps), .str bound])
  refine awp_seq2 fun K hK hQ => ?_
  refine ⟨[3], (.free 0 (.free 1 (.free 2 (.free 3 (.free 4 (.one 5 (.free 6 (.free 7 (.free 8 (.free 9 .done)))) .none)))))), _, by decide +kernel, ?_, fun _ _ h => ⟨_, .inl rfl, h⟩⟩
  conv => whnf
  refine ⟨_, _, q, ?_⟩
  conv => whnf
  refine ⟨.sl .any 1 (rowsS (decL l)), (hd _).mono ?_, ?_⟩
  · rintro o S' ⟨rfl, rfl⟩; exact ⟨rfl, rfl⟩
  conv => whnf
  refine (adds_ok hG hA hB hf (xs := _) (by exact ⟨rfl, rfl, rfl, ⟨rfl, rfl⟩, rfl, rfl, ⟨rfl, rfl⟩, rfl, rfl, rfl, trivial⟩) true hx).mono ?_
  rintro o T ⟨rfl, hL⟩
  conv => whnf
  refine hK _ _ ?_
  clear hK hQ K
  conv => whnf
  exact ⟨_, _, ⟨rfl, hL⟩, St.le_refl _, AV.leS_refl _ _ _⟩
theorem Pol_ok (hG : GS G) (hA : GAs G) {S₀ S : St} {wb : Nat} {w : LogV} (h : Log S₀ S wb w) (l : List OpV) (hf : Fits w (polS l)) (hx : OkNext w) :
    Triple P (C G) 26 [.ref wb 0, .sl .any 3 (rowsO l)] S fun o S' => o = .ret (.tu [.int .i64 (addsV w (polS l) true).1.1, .int .i64 (addsV w (polS l) true).1.2]) ∧ Log S₀ S' wb (addsV w (polS l) true).2 := by
  refine triple_of_awp (hT G) hm Tryz.func26 rfl (by decide +kernel) rfl (by decide +kernel) (by show 2 ≤ _; decide +kernel) rfl ?_
  conv => whnf
  refine (adds_ok hG hA h hf (xs := _) (by exact ⟨rfl, rfl, ⟨rfl, rfl⟩, rfl, rfl, rfl, rfl, rfl, rfl, rfl, trivial⟩) true hx).mono ?_
  rintro o T ⟨rfl, hL⟩
  conv => whnf
  exact ⟨_, _, ⟨rfl, hL⟩, St.le_refl _, AV.leS_refl _ _ _⟩
theorem Soli_ok (hG : GS G) (hA : GAs G) {S₀ S : St} {wb : Nat} {w : LogV} (h : Log S₀ S wb w) (l : List Int) (hf : Fits w (soliS l)) (hx : OkNext w) :
    Triple P (C G) 27 [.ref wb 0, .sl .any 1 (rowsI l)] S fun o S' => o = .ret (.tu [.int .i64 (addsV w (soliS l) w.goal).1.1, .int .i64 (addsV w (soliS l) w.goal).1.2]) ∧ Log S₀ S' wb (addsV w (soliS l) w.goal).2 := by
  obtain ⟨b1, b2, h'⟩ := h
  have hat := h'.at_
  unfold logC at hat
  refine triple_of_awp (hT G) hm Tryz.func27 rfl (by decide +kernel) rfl (by decide +kernel) (by show 2 ≤ _; decide +kernel) rfl ?_
  conv => whnf
  refine ⟨_, _, hat, ?_⟩
  conv => whnf
  refine (adds_ok hG hA ⟨b1, b2, h'⟩ hf (xs := _) (by exact ⟨rfl, rfl, rfl, rfl, rfl, ⟨rfl, rfl⟩, rfl, rfl, rfl, rfl, trivial⟩) w.goal hx).mono ?_
  rintro o T ⟨rfl, hL⟩
  conv => whnf
  exact ⟨_, _, ⟨rfl, hL⟩, St.le_refl _, AV.leS_refl _ _ _⟩
theorem Solx_ok (hG : GS G) (hA : GAs G) {S₀ S : St} {wb : Nat} {w : LogV} (h : Log S₀ S wb w) (l : List Int) (hf : Fits w (solxS l)) (hx : OkNext w) :
    Triple P (C G) 28 [.ref wb 0, .sl .any 1 (rowsI l)] S fun o S' => o = .ret (.tu [.int .i64 (addsV w (solxS l) true).1.1, .int .i64 (addsV w (solxS l) true).1.2]) ∧ Log S₀ S' wb (addsV w (solxS l) true).2 := by
  refine triple_of_awp (hT G) hm Tryz.func28 rfl (by decide +kernel) rfl (by decide +kernel) (by show 2 ≤ _; decide +kernel) rfl ?_
  conv => whnf
  refine (adds_ok hG hA h hf (xs := _) (by exact ⟨rfl, rfl, rfl, rfl, rfl, ⟨rfl, rfl⟩, rfl, rfl, rfl, rfl, trivial⟩) true hx).mono ?_
  rintro o T ⟨rfl, hL⟩
  conv => whnf
  exact ⟨_, _, ⟨rfl, hL⟩, St.le_refl _, AV.leS_refl _ _ _⟩
theorem Same_w_ok (hG : GS G) (hA : GAs G) {S₀ S : St} {wb : Nat} {w : LogV} (h : Log S₀ S wb w) (id : Int) (hid : okI id) (ps : List (ByteArray × Int)) (bound : ByteArray) (hf : Fits w (sameS ps bound (decL [id]))) :
    Triple P (C G) 29 [.ref wb 0, .int .i64 id, .ag [.sl .any 2 (rowsP ps), .str bound]] S fun o S' => o = .ret (.int .i64 (layV w (sameS ps bound (decL [id]))).1) ∧ Log S₀ S' wb (layV w (sameS ps bound (decL [id]))).2 := by
  have hd := fun S => decimals_ok (G := G) hG.tab [id] (by simpa using hid) (by simp) S
  refine triple_of_awp (hT G) hm Tryz.func29 rfl (by decide +kernel) rfl (by decide +kernel) (by show 3 ≤ _; decide +kernel) rfl ?_
  refine awp_seq2 fun K hK hQ => ?_
  conv => whnf
  intro b hb
  conv => whnf
  refine hK _ _ ?_
  clear hK hQ K
  have hB := h.more hb (.obj 51 [.sl .any 2 (rowsP ps), .str bound])
  have q := St.upd_same S b (.obj 51 [.sl .any 2 (rowsP ps), .str bound])
  refine awp_seq2 fun K hK hQ => ?_
  refine ⟨[5], (.free 0 (.free 1 (.free 2 (.free 3 (.free 6 (.one 4 (.free 5 (.free 7 (.one 8 (.free 9 .done) .none))) .none)))))), _, by decide +kernel, ?_, fun _ _ h => ⟨_, .inl rfl, h⟩⟩
  conv => whnf
  refine ⟨_, _, q, ?_⟩
  conv => whnf
  intro b2 hb2
  have hB2 := hB.more hb2 (.tip 3 1 1)
  conv => whnf
  refine ⟨.sl .any 1 (rowsS (decL [id])), (Triple.use (hd _) (by exact ⟨⟨rfl, rfl⟩, trivial⟩) ?_), ?_⟩
  · rintro o S' ⟨rfl, rfl⟩; exact ⟨rfl, rfl⟩
  conv => whnf
  refine (lay_ok hG hA hB2 hf (xs := _) (by exact ⟨rfl, rfl, rfl, ⟨rfl, rfl⟩, rfl, rfl, ⟨rfl, rfl⟩, rfl, rfl, rfl, trivial⟩)).mono ?_
  rintro o T ⟨rfl, hL⟩
  conv => whnf
  refine hK _ _ ?_
  clear hK hQ K
  conv => whnf
  exact ⟨_, _, ⟨rfl, hL⟩, St.le_refl _, AV.leS_refl _ _ _⟩
theorem Del_ok (hG : GS G) (hA : GAs G) {S₀ S : St} {wb : Nat} {w : LogV} (h : Log S₀ S wb w) (l : List Int) (hl : ∀ z ∈ l, okI z) (hn : l.length ≤ 100000000) (hf : Fits w (delS (decL l))) :
    Triple P (C G) 30 [.ref wb 0, .sl .any 1 (rowsI l)] S fun o S' => o = .ret (.int .i64 (layV w (delS (decL l))).1) ∧ Log S₀ S' wb (layV w (delS (decL l))).2 := by
  have hd := fun S => decimals_ok (G := G) hG.tab l hl hn S
  refine triple_of_awp (hT G) hm Tryz.func30 rfl (by decide +kernel) rfl (by decide +kernel) (by show 2 ≤ _; decide +kernel) rfl ?_
  refine awp_seq2 fun K hK hQ => ?_
  conv => whnf
  refine hK _ _ ?_
  clear hK hQ K
  refine awp_seq2 fun K hK hQ => ?_
  refine ⟨[4], (.free 0 (.free 1 (.free 2 (.free 3 (.free 4 (.free 5 (.one 6 (.free 7 .done) .none))))))), _, by decide +kernel, ?_, fun _ _ h => ⟨_, .inl rfl, h⟩⟩
  conv => whnf
  refine ⟨.sl .any 1 (rowsS (decL l)), (hd _).mono ?_, ?_⟩
  · rintro o S' ⟨rfl, rfl⟩; exact ⟨rfl, rfl⟩
  conv => whnf
  refine (lay_ok hG hA h hf (xs := _) (by exact ⟨rfl, rfl, rfl, rfl, rfl, rfl, ⟨rfl, rfl⟩, rfl, rfl, rfl, trivial⟩)).mono ?_
  rintro o T ⟨rfl, hL⟩
  conv => whnf
  refine hK _ _ ?_
  clear hK hQ K
  conv => whnf
  exact ⟨_, _, ⟨rfl, hL⟩, St.le_refl _, AV.leS_refl _ _ _⟩
theorem Note_ok (hG : GS G) (hA : GAs G) {S₀ S : St} {wb : Nat} {w : LogV} (h : Log S₀ S wb w) (hf : Fits w (kindS 7)) :
    Triple P (C G) 31 [.ref wb 0] S fun o S' => o = .ret (.int .i64 (layV w (kindS 7)).1) ∧ Log S₀ S' wb (layV w (kindS 7)).2 := by
  refine triple_of_awp (hT G) hm Tryz.func31 rfl (by decide +kernel) rfl (by decide +kernel) (by show 1 ≤ _; decide +kernel) rfl ?_
  conv => whnf
  refine (lay_ok hG hA h hf (xs := _) (by exact ⟨rfl, rfl, rfl, rfl, rfl, rfl, rfl, rfl, rfl, rfl, trivial⟩)).mono ?_
  rintro o T ⟨rfl, hL⟩
  conv => whnf
  exact ⟨_, _, ⟨rfl, hL⟩, St.le_refl _, AV.leS_refl _ _ _⟩
theorem Next_ok {S₀ S : St} {wb : Nat} {w : LogV} (h : Log S₀ S wb w) : Triple P (C G) 37 [.ref wb 0] S fun o S' => o = .ret (.int .i64 w.next) ∧ S' = S := by
  obtain ⟨b1, b2, h'⟩ := h
  have hat := h'.at_
  unfold logC at hat
  refine triple_of_awp (hT G) hm Tryz.func37 rfl (by decide +kernel) rfl (by decide +kernel) (by show 1 ≤ _; decide +kernel) rfl ?_
  conv => whnf
  refine ⟨_, _, hat, ?_⟩
  conv => whnf
  exact ⟨_, _, ⟨rfl, rfl⟩, St.le_refl _, AV.leS_refl _ _ _⟩
def logS (w : LogV) : ByteArray := ⟨(logT w.st).toArray⟩
theorem rowsB_logS (w : LogV) : rowsL (logT w.st) = rowsB (logS w) := by rw [rowsB_L]; simp [logS]
theorem Text_w_ok {S₀ S : St} {wb : Nat} {w : LogV} (h : Log S₀ S wb w) : Triple P (C G) 35 [.ref wb 0] S fun o S' => o = .ret (.str (logS w)) ∧ S' = S := by
  obtain ⟨b1, b2, h'⟩ := h
  have hat := h'.at_
  unfold logC at hat
  refine triple_of_awp (hT G) hm Tryz.func35 rfl (by decide +kernel) rfl (by decide +kernel) (by show 1 ≤ _; decide +kernel) rfl ?_
  conv => whnf
  refine ⟨_, _, hat, ?_⟩
  conv => whnf
  refine ⟨logS w, rowsB_logS w, ?_⟩
  conv => whnf
  exact ⟨_, _, ⟨rfl, rfl⟩, St.le_refl _, AV.leS_refl _ _ _⟩
/-- What was laid down reads back as its steps. -/
def Laid (w : LogV) : Prop := ∀ v ∈ w.st, (printP v).2 = 0
theorem Laid.lay {w : LogV} (h : Laid w) (v : StepV) : Laid (layV w v).2 := by
  unfold layV
  split
  · exact h
  split
  · rename_i _ he
    intro x hx
    rcases List.mem_append.1 hx with hx | hx
    · exact h x hx
    · rw [List.mem_singleton.1 hx]; exact he
  · exact h
theorem Laid.adds {w : LogV} (h : Laid w) (v : StepV) (row : Bool) : Laid (addsV w v row).2 := by
  have := h.lay v
  unfold addsV
  dsimp only
  split
  · exact this
  split
  · exact this
  · exact this
theorem Laid.read {w : LogV} (h : Laid w) : linesOf (logS w) = w.st.map textT ∧ readL (linesOf (logS w)) [] = (w.st, none) := by
  have h1 := writeL_all w.st [] 0 h
  have h2 := (writeL_none w.st [] 0 h1).2
  rw [List.nil_append] at h2
  have h3 := written_read h1
  rw [h2] at h3
  exact h3
theorem Steps_w_ok {m : Int} (hM : G 1 = some [.int .i64 m]) (hG : GS G) (hA : GAs G) {S₀ S : St} {wb : Nat} {w : LogV} (h : Log S₀ S wb w) (hl : Laid w) (hs : (logS w).size < 100000001) (ht : ∀ v ∈ w.st, (textT v).size ≤ 8999999) : Triple P (C G) 36 [.ref wb 0] S fun o S' => o = .ret (.sl .any 10 (rowsT w.st)) ∧ S' = S := by
  obtain ⟨b1, b2, h'⟩ := h
  have hat := h'.at_
  unfold logC at hat
  obtain ⟨r1, r2⟩ := hl.read
  have hr := fun S => Read_ok (G := G) hM hG hA (logS w) hs (by rw [r1]; intro x hx; obtain ⟨v, hv, rfl⟩ := List.mem_map.1 hx; exact ht v hv) S
  rw [r2] at hr
  unfold readAV at hr
  dsimp only at hr
  refine triple_of_awp (hT G) hm Tryz.func36 rfl (by decide +kernel) rfl (by decide +kernel) (by show 1 ≤ _; decide +kernel) rfl ?_
  conv => whnf
  refine ⟨_, _, hat, ?_⟩
  conv => whnf
  refine ⟨logS w, rowsB_logS w, ?_⟩
  conv => whnf
  refine (hr _).mono ?_
  rintro o T ⟨rfl, rfl⟩
  conv => whnf
  exact ⟨_, _, ⟨rfl, rfl⟩, St.le_refl _, AV.leS_refl _ _ _⟩
end Go.Proofs.YtcpdgnkhkdddhaaGreatDoor.Aw

set_option maxRecDepth 100000
set_option linter.unusedVariables false
set_option linter.unusedSimpArgs false
namespace Go.Proofs.YtcpdgnkhkdddhaaGreatDoor.Aw
open Go Go.RowKit
variable {G : Nat → Option (List AV)}

def idsC (id : Int) : List ByteArray := if id > 0 then decL [id] else []
def conclS (k id low high : Int) : StepV :=
  if k = 6 then { zeroV with kind := 9, n6 := k, ids := idsC id, s8 := itoaS high } else if k = 5 then { zeroV with kind := 9, n6 := k, ids := idsC id, s7 := itoaS low, s8 := itoaS high } else { zeroV with kind := 9, n6 := k, ids := idsC id }
def conclB (k id low high : Int) : Bool :=
  if (k == 1 || k == 3) then (id == 0 && low == 0) && high == 0 else if k == 2 then (decide (id ≥ 0) && low == 0) && high == 0 else if k == 6 then (decide (id > 0) && decide (high ≥ 0)) && low == 0 else if k == 5 then decide (id ≥ 0) else false
theorem concl_le {F S : St} {x : AV} {ids : List ByteArray} {k id low high : Int} {B : Bool} {s7 s8 : ByteArray} (hB : conclB k id low high = B) (hS : conclS k id low high = { zeroV with kind := 9, n6 := k, ids := ids, s7 := s7, s8 := s8 }) (hx : AV.leS F S x (.sl .any 1 (rowsS ids))) :
    AV.leS F S (.tu [.ag [.int .i64 9, .str ByteArray.empty, .nils, .nils, .str ByteArray.empty, .nils, x, .int .i64 k, .str s7, .str s8], .bool B]) (.tu [stepAV (conclS k id low high), .bool (conclB k id low high)]) := by
  rw [hB, hS]
  exact ⟨⟨rfl, rfl, rfl, rfl, rfl, rfl, hx, rfl, rfl, rfl, rfl⟩, rfl, rfl⟩
theorem concl_w_ok (hG : GS G) (k id low high : Int) (hi : okI id) (hlo : okI low) (hhi : okI high) (S : St) :
    Triple P (C G) 74 [.int .i64 k, .int .i64 id, .int .i64 low, .int .i64 high] S fun o S' => o = .ret (.tu [stepAV (conclS k id low high), .bool (conclB k id low high)]) ∧ S' = S := by
  have hd := fun S => decimals_ok (G := G) hG.tab [id] (by simpa using hi) (by simp) S
  have hil := fun S => itoa_ok (G := G) hG.tab low hlo.1 hlo.2 S
  have hih := fun S => itoa_ok (G := G) hG.tab high hhi.1 hhi.2 S
  refine triple_of_awp (hT G) hm Tryz.func74 rfl (by decide +kernel) rfl (by decide +kernel) (by show 4 ≤ _; decide +kernel) rfl ?_
  refine awp_seq2 fun K hK hQ => ?_
  conv => whnf
  intro b8 z8
  conv => whnf
  refine hK _ _ ?_
  clear hK hQ K
  refine awp_seq2 fun K hK hQ => ?_
  conv => whnf
  intro b10 hb10
  conv => whnf
  refine ⟨_, _, St.upd_same _ _ _, ?_⟩
  conv => whnf
  rw [St.upd_upd]
  refine hK _ _ ?_
  clear hK hQ K
  have n8 : b8 ≠ b10 := fun e => by rw [← e, St.upd_same] at hb10; cases hb10
  have z10 := St.no hb10
  have q8 : ((S.upd b8 (.obj 54 stepZ)).upd b10 (.obj 54 [.int .i64 9, .str ByteArray.empty, .nils, .nils, .str ByteArray.empty, .nils, .nils, .int .i64 k, .str ByteArray.empty, .str ByteArray.empty])) b8 = some (.obj 54 stepZ) := St.up hb10 (St.upd_same S b8 (.obj 54 stepZ))
  have q10 := St.upd_same (S.upd b8 (.obj 54 stepZ)) b10 (.obj 54 [.int .i64 9, .str ByteArray.empty, .nils, .nils, .str ByteArray.empty, .nils, .nils, .int .i64 k, .str ByteArray.empty, .str ByteArray.empty])
  have hF : St.le S ((S.upd b8 (.obj 54 stepZ)).upd b10 (.obj 54 [.int .i64 9, .str ByteArray.empty, .nils, .nils, .str ByteArray.empty, .nils, .nils, .int .i64 k, .str ByteArray.empty, .str ByteArray.empty])) := St.le_upd' (St.le_upd' (St.le_refl S) z8 _) hb10 _
  change awp _ _ _ _ ((S.upd b8 (.obj 54 stepZ)).upd b10 (.obj 54 [.int .i64 9, .str ByteArray.empty, .nils, .nils, .str ByteArray.empty, .nils, .nils, .int .i64 k, .str ByteArray.empty, .str ByteArray.empty])) _
  generalize (S.upd b8 (.obj 54 stepZ)).upd b10 (.obj 54 [.int .i64 9, .str ByteArray.empty, .nils, .nils, .str ByteArray.empty, .nils, .nils, .int .i64 k, .str ByteArray.empty, .str ByteArray.empty]) = F at *
  refine awp_seq2 fun K hK hQ => ?_
  conv => whnf
  refine split_of (fun hid => ?_) (fun hid => ?_)
  · have hid : id > 0 := of_decide_eq_true hid
    have hids : idsC id = decL [id] := if_pos hid
    conv => whnf
    intro bb hbb
    conv => whnf
    refine Triple.use (hd _) (by exact ⟨⟨rfl, rfl⟩, trivial⟩) ?_
    rintro o T ⟨rfl, rfl⟩
    conv => whnf
    refine ⟨_, _, St.up hbb q10, ?_⟩
    conv => whnf
    refine hK _ _ ?_
    clear hK hQ K
    have q8 := St.ov n8 (St.up hbb q8 (p := .tip 3 1 1)) (p := .obj 54 [.int .i64 9, .str ByteArray.empty, .nils, .nils, .str ByteArray.empty, .nils, .sl .any 1 (rowsS (decL [id])), .int .i64 k, .str ByteArray.empty, .str ByteArray.empty])
    have q10 := St.upd_same (F.upd bb (.tip 3 1 1)) b10 (.obj 54 [.int .i64 9, .str ByteArray.empty, .nils, .nils, .str ByteArray.empty, .nils, .sl .any 1 (rowsS (decL [id])), .int .i64 k, .str ByteArray.empty, .str ByteArray.empty])
    have hF := St.le_upd (St.le_upd' hF hbb (.tip 3 1 1)) z10 (.obj 54 [.int .i64 9, .str ByteArray.empty, .nils, .nils, .str ByteArray.empty, .nils, .sl .any 1 (rowsS (decL [id])), .int .i64 k, .str ByteArray.empty, .str ByteArray.empty])
    change awp _ _ _ _ ((F.upd bb (.tip 3 1 1)).upd b10 (.obj 54 [.int .i64 9, .str ByteArray.empty, .nils, .nils, .str ByteArray.empty, .nils, .sl .any 1 (rowsS (decL [id])), .int .i64 k, .str ByteArray.empty, .str ByteArray.empty])) _
    generalize (F.upd bb (.tip 3 1 1)).upd b10 (.obj 54 [.int .i64 9, .str ByteArray.empty, .nils, .nils, .str ByteArray.empty, .nils, .sl .any 1 (rowsS (decL [id])), .int .i64 k, .str ByteArray.empty, .str ByteArray.empty]) = F2 at *
    -- (by rw [hids]; exact ⟨rfl, rfl⟩) hx
    have hS1 : k ≠ 6 → k ≠ 5 → conclS k id low high = { zeroV with kind := 9, n6 := k, ids := idsC id } := fun h6 h5 => by unfold conclS; rw [if_neg h6, if_neg h5]
    refine awp_seq2 fun K hK hQ => ?_
    conv => whnf
    cases hk1 : (k == 1) with
    | true =>
      have hk' : k = 1 := by simpa using hk1
      have hS := hS1 (by omega) (by omega)
      conv => whnf
      refine ⟨_, _, q10, ?_⟩
      conv => whnf
      -- (id == 0) the first, hk1 hB so far, (by rw [hids]; exact ⟨rfl, rfl⟩) hx, q8 b8's fact, hS hS, (low == 0) the second
      cases h1 : (id == 0) with
      | false =>
        conv => whnf
        -- q8 b8's fact, hk1, h1 hB, hS hS, (by rw [hids]; exact ⟨rfl, rfl⟩) hx
        refine ⟨_, _, q8, ?_⟩
        conv => whnf
        refine hQ _ _ _ (by simp) ?_
        -- hk1, h1 hB, hS hS, (by rw [hids]; exact ⟨rfl, rfl⟩) hx
        conv => whnf
        refine ⟨_, _, St.upd_same _ _ _, ?_⟩
        conv => whnf
        refine ⟨_, _, ⟨rfl, rfl⟩, by repeat (first | exact hF | refine St.le_upd ?_ z8 _ | refine St.le_upd ?_ z10 _), ?_⟩
        exact concl_le (by unfold conclB; simp [hk1, h1]) hS (by rw [hids]; exact ⟨rfl, rfl⟩)
      | true =>
        conv => whnf
        cases h2 : (low == 0) with
        | false =>
          conv => whnf
          -- q8 b8's fact, hk1, h1, h2 hB, hS hS, (by rw [hids]; exact ⟨rfl, rfl⟩) hx
          refine ⟨_, _, q8, ?_⟩
          conv => whnf
          refine hQ _ _ _ (by simp) ?_
          -- hk1, h1, h2 hB, hS hS, (by rw [hids]; exact ⟨rfl, rfl⟩) hx
          conv => whnf
          refine ⟨_, _, St.upd_same _ _ _, ?_⟩
          conv => whnf
          refine ⟨_, _, ⟨rfl, rfl⟩, by repeat (first | exact hF | refine St.le_upd ?_ z8 _ | refine St.le_upd ?_ z10 _), ?_⟩
          exact concl_le (by unfold conclB; simp [hk1, h1, h2]) hS (by rw [hids]; exact ⟨rfl, rfl⟩)
        | true =>
          conv => whnf
          -- q8 b8's fact, hk1, h1, h2 hB, hS hS, (by rw [hids]; exact ⟨rfl, rfl⟩) hx
          refine ⟨_, _, q8, ?_⟩
          conv => whnf
          refine hQ _ _ _ (by simp) ?_
          -- hk1, h1, h2 hB, hS hS, (by rw [hids]; exact ⟨rfl, rfl⟩) hx
          conv => whnf
          refine ⟨_, _, St.upd_same _ _ _, ?_⟩
          conv => whnf
          refine ⟨_, _, ⟨rfl, rfl⟩, by repeat (first | exact hF | refine St.le_upd ?_ z8 _ | refine St.le_upd ?_ z10 _), ?_⟩
          exact concl_le (by unfold conclB; simp [hk1, h1, h2]) hS (by rw [hids]; exact ⟨rfl, rfl⟩)
    | false =>
      conv => whnf
      cases hk3 : (k == 3) with
      | true =>
        have hk' : k = 3 := by simpa using hk3
        have hS := hS1 (by omega) (by omega)
        conv => whnf
        refine ⟨_, _, q10, ?_⟩
        conv => whnf
        -- (id == 0) the first, hk1, hk3 hB so far, (by rw [hids]; exact ⟨rfl, rfl⟩) hx, q8 b8's fact, hS hS, (low == 0) the second
        cases h1 : (id == 0) with
        | false =>
          conv => whnf
          -- q8 b8's fact, hk1, hk3, h1 hB, hS hS, (by rw [hids]; exact ⟨rfl, rfl⟩) hx
          refine ⟨_, _, q8, ?_⟩
          conv => whnf
          refine hQ _ _ _ (by simp) ?_
          -- hk1, hk3, h1 hB, hS hS, (by rw [hids]; exact ⟨rfl, rfl⟩) hx
          conv => whnf
          refine ⟨_, _, St.upd_same _ _ _, ?_⟩
          conv => whnf
          refine ⟨_, _, ⟨rfl, rfl⟩, by repeat (first | exact hF | refine St.le_upd ?_ z8 _ | refine St.le_upd ?_ z10 _), ?_⟩
          exact concl_le (by unfold conclB; simp [hk1, hk3, h1]) hS (by rw [hids]; exact ⟨rfl, rfl⟩)
        | true =>
          conv => whnf
          cases h2 : (low == 0) with
          | false =>
            conv => whnf
            -- q8 b8's fact, hk1, hk3, h1, h2 hB, hS hS, (by rw [hids]; exact ⟨rfl, rfl⟩) hx
            refine ⟨_, _, q8, ?_⟩
            conv => whnf
            refine hQ _ _ _ (by simp) ?_
            -- hk1, hk3, h1, h2 hB, hS hS, (by rw [hids]; exact ⟨rfl, rfl⟩) hx
            conv => whnf
            refine ⟨_, _, St.upd_same _ _ _, ?_⟩
            conv => whnf
            refine ⟨_, _, ⟨rfl, rfl⟩, by repeat (first | exact hF | refine St.le_upd ?_ z8 _ | refine St.le_upd ?_ z10 _), ?_⟩
            exact concl_le (by unfold conclB; simp [hk1, hk3, h1, h2]) hS (by rw [hids]; exact ⟨rfl, rfl⟩)
          | true =>
            conv => whnf
            -- q8 b8's fact, hk1, hk3, h1, h2 hB, hS hS, (by rw [hids]; exact ⟨rfl, rfl⟩) hx
            refine ⟨_, _, q8, ?_⟩
            conv => whnf
            refine hQ _ _ _ (by simp) ?_
            -- hk1, hk3, h1, h2 hB, hS hS, (by rw [hids]; exact ⟨rfl, rfl⟩) hx
            conv => whnf
            refine ⟨_, _, St.upd_same _ _ _, ?_⟩
            conv => whnf
            refine ⟨_, _, ⟨rfl, rfl⟩, by repeat (first | exact hF | refine St.le_upd ?_ z8 _ | refine St.le_upd ?_ z10 _), ?_⟩
            exact concl_le (by unfold conclB; simp [hk1, hk3, h1, h2]) hS (by rw [hids]; exact ⟨rfl, rfl⟩)
      | false =>
        conv => whnf
        cases hk2 : (k == 2) with
        | true =>
          have hk' : k = 2 := by simpa using hk2
          have hS := hS1 (by omega) (by omega)
          conv => whnf
          refine ⟨_, _, q10, ?_⟩
          conv => whnf
          -- decide (id ≥ 0) the first, hk1, hk3, hk2 hB so far, (by rw [hids]; exact ⟨rfl, rfl⟩) hx, q8 b8's fact, hS hS, (low == 0) the second
          cases h1 : decide (id ≥ 0) with
          | false =>
            conv => whnf
            -- q8 b8's fact, hk1, hk3, hk2, h1 hB, hS hS, (by rw [hids]; exact ⟨rfl, rfl⟩) hx
            refine ⟨_, _, q8, ?_⟩
            conv => whnf
            refine hQ _ _ _ (by simp) ?_
            -- hk1, hk3, hk2, h1 hB, hS hS, (by rw [hids]; exact ⟨rfl, rfl⟩) hx
            conv => whnf
            refine ⟨_, _, St.upd_same _ _ _, ?_⟩
            conv => whnf
            refine ⟨_, _, ⟨rfl, rfl⟩, by repeat (first | exact hF | refine St.le_upd ?_ z8 _ | refine St.le_upd ?_ z10 _), ?_⟩
            exact concl_le (by unfold conclB; simp [hk1, hk3, hk2, h1]) hS (by rw [hids]; exact ⟨rfl, rfl⟩)
          | true =>
            conv => whnf
            cases h2 : (low == 0) with
            | false =>
              conv => whnf
              -- q8 b8's fact, hk1, hk3, hk2, h1, h2 hB, hS hS, (by rw [hids]; exact ⟨rfl, rfl⟩) hx
              refine ⟨_, _, q8, ?_⟩
              conv => whnf
              refine hQ _ _ _ (by simp) ?_
              -- hk1, hk3, hk2, h1, h2 hB, hS hS, (by rw [hids]; exact ⟨rfl, rfl⟩) hx
              conv => whnf
              refine ⟨_, _, St.upd_same _ _ _, ?_⟩
              conv => whnf
              refine ⟨_, _, ⟨rfl, rfl⟩, by repeat (first | exact hF | refine St.le_upd ?_ z8 _ | refine St.le_upd ?_ z10 _), ?_⟩
              exact concl_le (by unfold conclB; simp [hk1, hk3, hk2, h1, h2]) hS (by rw [hids]; exact ⟨rfl, rfl⟩)
            | true =>
              conv => whnf
              -- q8 b8's fact, hk1, hk3, hk2, h1, h2 hB, hS hS, (by rw [hids]; exact ⟨rfl, rfl⟩) hx
              refine ⟨_, _, q8, ?_⟩
              conv => whnf
              refine hQ _ _ _ (by simp) ?_
              -- hk1, hk3, hk2, h1, h2 hB, hS hS, (by rw [hids]; exact ⟨rfl, rfl⟩) hx
              conv => whnf
              refine ⟨_, _, St.upd_same _ _ _, ?_⟩
              conv => whnf
              refine ⟨_, _, ⟨rfl, rfl⟩, by repeat (first | exact hF | refine St.le_upd ?_ z8 _ | refine St.le_upd ?_ z10 _), ?_⟩
              exact concl_le (by unfold conclB; simp [hk1, hk3, hk2, h1, h2]) hS (by rw [hids]; exact ⟨rfl, rfl⟩)
        | false =>
          conv => whnf
          cases hk6 : (k == 6) with
          | true =>
            have hk' : k = 6 := by simpa using hk6
            have hS : conclS k id low high = { zeroV with kind := 9, n6 := k, ids := idsC id, s8 := itoaS high } := by unfold conclS; rw [if_pos hk']
            conv => whnf
            refine (hih _).mono ?_
            rintro o T ⟨rfl, rfl⟩
            conv => whnf
            refine ⟨_, _, q10, ?_⟩
            conv => whnf
            refine ⟨_, _, St.upd_same _ _ _, ?_⟩
            conv => whnf
            -- decide (id > 0) the first, hk1, hk3, hk2, hk6 hB so far, (by rw [hids]; exact ⟨rfl, rfl⟩) hx, St.ov n8 q8 b8's fact, hS hS, decide (high ≥ 0) the second
            cases h1 : decide (id > 0) with
            | false =>
              conv => whnf
              -- St.ov n8 q8 b8's fact, hk1, hk3, hk2, hk6, h1 hB, hS hS, (by rw [hids]; exact ⟨rfl, rfl⟩) hx
              refine ⟨_, _, St.ov n8 q8, ?_⟩
              conv => whnf
              refine hQ _ _ _ (by simp) ?_
              -- hk1, hk3, hk2, hk6, h1 hB, hS hS, (by rw [hids]; exact ⟨rfl, rfl⟩) hx
              conv => whnf
              refine ⟨_, _, St.upd_same _ _ _, ?_⟩
              conv => whnf
              refine ⟨_, _, ⟨rfl, rfl⟩, by repeat (first | exact hF | refine St.le_upd ?_ z8 _ | refine St.le_upd ?_ z10 _), ?_⟩
              exact concl_le (by unfold conclB; simp [hk1, hk3, hk2, hk6, h1]) hS (by rw [hids]; exact ⟨rfl, rfl⟩)
            | true =>
              conv => whnf
              cases h2 : decide (high ≥ 0) with
              | false =>
                conv => whnf
                -- St.ov n8 q8 b8's fact, hk1, hk3, hk2, hk6, h1, h2 hB, hS hS, (by rw [hids]; exact ⟨rfl, rfl⟩) hx
                refine ⟨_, _, St.ov n8 q8, ?_⟩
                conv => whnf
                refine hQ _ _ _ (by simp) ?_
                -- hk1, hk3, hk2, hk6, h1, h2 hB, hS hS, (by rw [hids]; exact ⟨rfl, rfl⟩) hx
                conv => whnf
                refine ⟨_, _, St.upd_same _ _ _, ?_⟩
                conv => whnf
                refine ⟨_, _, ⟨rfl, rfl⟩, by repeat (first | exact hF | refine St.le_upd ?_ z8 _ | refine St.le_upd ?_ z10 _), ?_⟩
                exact concl_le (by unfold conclB; simp [hk1, hk3, hk2, hk6, h1, h2]) hS (by rw [hids]; exact ⟨rfl, rfl⟩)
              | true =>
                conv => whnf
                -- St.ov n8 q8 b8's fact, hk1, hk3, hk2, hk6, h1, h2 hB, hS hS, (by rw [hids]; exact ⟨rfl, rfl⟩) hx
                refine ⟨_, _, St.ov n8 q8, ?_⟩
                conv => whnf
                refine hQ _ _ _ (by simp) ?_
                -- hk1, hk3, hk2, hk6, h1, h2 hB, hS hS, (by rw [hids]; exact ⟨rfl, rfl⟩) hx
                conv => whnf
                refine ⟨_, _, St.upd_same _ _ _, ?_⟩
                conv => whnf
                refine ⟨_, _, ⟨rfl, rfl⟩, by repeat (first | exact hF | refine St.le_upd ?_ z8 _ | refine St.le_upd ?_ z10 _), ?_⟩
                exact concl_le (by unfold conclB; simp [hk1, hk3, hk2, hk6, h1, h2]) hS (by rw [hids]; exact ⟨rfl, rfl⟩)
          | false =>
            conv => whnf
            have hk6' : k ≠ 6 := by simpa using hk6
            cases hk5 : (k == 5) with
            | true =>
              have hk' : k = 5 := by simpa using hk5
              have hS : conclS k id low high = { zeroV with kind := 9, n6 := k, ids := idsC id, s7 := itoaS low, s8 := itoaS high } := by unfold conclS; rw [if_neg hk6', if_pos hk']
              conv => whnf
              refine (hil _).mono ?_
              rintro o T ⟨rfl, rfl⟩
              conv => whnf
              refine (hih _).mono ?_
              rintro o T ⟨rfl, rfl⟩
              conv => whnf
              refine ⟨_, _, q10, ?_⟩
              conv => whnf
              refine ⟨_, _, St.upd_same _ _ _, ?_⟩
              conv => whnf
              refine ⟨_, _, St.upd_same _ _ _, ?_⟩
              conv => whnf
              -- St.ov n8 (St.ov n8 q8) b8's fact, hk1, hk3, hk2, hk6, hk5 hB, hS hS, (by rw [hids]; exact ⟨rfl, rfl⟩) hx
              refine ⟨_, _, St.ov n8 (St.ov n8 q8), ?_⟩
              conv => whnf
              refine hQ _ _ _ (by simp) ?_
              -- hk1, hk3, hk2, hk6, hk5 hB, hS hS, (by rw [hids]; exact ⟨rfl, rfl⟩) hx
              conv => whnf
              refine ⟨_, _, St.upd_same _ _ _, ?_⟩
              conv => whnf
              refine ⟨_, _, ⟨rfl, rfl⟩, by repeat (first | exact hF | refine St.le_upd ?_ z8 _ | refine St.le_upd ?_ z10 _), ?_⟩
              exact concl_le (by unfold conclB; simp [hk1, hk3, hk2, hk6, hk5]) hS (by rw [hids]; exact ⟨rfl, rfl⟩)
            | false =>
              have hk5' : k ≠ 5 := by simpa using hk5
              have hS := hS1 hk6' hk5'
              conv => whnf
              refine hK _ _ ?_
              clear hK hQ K
              conv => whnf
              refine ⟨_, _, q10, ?_⟩
              conv => whnf
              refine ⟨_, _, q8, ?_⟩
              -- hk1, hk3, hk2, hk6, hk5 hB, hS hS, (by rw [hids]; exact ⟨rfl, rfl⟩) hx
              conv => whnf
              refine ⟨_, _, St.upd_same _ _ _, ?_⟩
              conv => whnf
              refine ⟨_, _, ⟨rfl, rfl⟩, by repeat (first | exact hF | refine St.le_upd ?_ z8 _ | refine St.le_upd ?_ z10 _), ?_⟩
              exact concl_le (by unfold conclB; simp [hk1, hk3, hk2, hk6, hk5]) hS (by rw [hids]; exact ⟨rfl, rfl⟩)
  · have hid : ¬ id > 0 := of_decide_eq_false hid
    have hids : idsC id = [] := if_neg hid
    conv => whnf
    refine hK _ _ ?_
    clear hK hQ K
    -- (by rw [hids]; exact rfl) hx
    have hS1 : k ≠ 6 → k ≠ 5 → conclS k id low high = { zeroV with kind := 9, n6 := k, ids := idsC id } := fun h6 h5 => by unfold conclS; rw [if_neg h6, if_neg h5]
    refine awp_seq2 fun K hK hQ => ?_
    conv => whnf
    cases hk1 : (k == 1) with
    | true =>
      have hk' : k = 1 := by simpa using hk1
      have hS := hS1 (by omega) (by omega)
      conv => whnf
      refine ⟨_, _, q10, ?_⟩
      conv => whnf
      -- (id == 0) the first, hk1 hB so far, (by rw [hids]; exact rfl) hx, q8 b8's fact, hS hS, (low == 0) the second
      cases h1 : (id == 0) with
      | false =>
        conv => whnf
        -- q8 b8's fact, hk1, h1 hB, hS hS, (by rw [hids]; exact rfl) hx
        refine ⟨_, _, q8, ?_⟩
        conv => whnf
        refine hQ _ _ _ (by simp) ?_
        -- hk1, h1 hB, hS hS, (by rw [hids]; exact rfl) hx
        conv => whnf
        refine ⟨_, _, St.upd_same _ _ _, ?_⟩
        conv => whnf
        refine ⟨_, _, ⟨rfl, rfl⟩, by repeat (first | exact hF | refine St.le_upd ?_ z8 _ | refine St.le_upd ?_ z10 _), ?_⟩
        exact concl_le (by unfold conclB; simp [hk1, h1]) hS (by rw [hids]; exact rfl)
      | true =>
        conv => whnf
        cases h2 : (low == 0) with
        | false =>
          conv => whnf
          -- q8 b8's fact, hk1, h1, h2 hB, hS hS, (by rw [hids]; exact rfl) hx
          refine ⟨_, _, q8, ?_⟩
          conv => whnf
          refine hQ _ _ _ (by simp) ?_
          -- hk1, h1, h2 hB, hS hS, (by rw [hids]; exact rfl) hx
          conv => whnf
          refine ⟨_, _, St.upd_same _ _ _, ?_⟩
          conv => whnf
          refine ⟨_, _, ⟨rfl, rfl⟩, by repeat (first | exact hF | refine St.le_upd ?_ z8 _ | refine St.le_upd ?_ z10 _), ?_⟩
          exact concl_le (by unfold conclB; simp [hk1, h1, h2]) hS (by rw [hids]; exact rfl)
        | true =>
          conv => whnf
          -- q8 b8's fact, hk1, h1, h2 hB, hS hS, (by rw [hids]; exact rfl) hx
          refine ⟨_, _, q8, ?_⟩
          conv => whnf
          refine hQ _ _ _ (by simp) ?_
          -- hk1, h1, h2 hB, hS hS, (by rw [hids]; exact rfl) hx
          conv => whnf
          refine ⟨_, _, St.upd_same _ _ _, ?_⟩
          conv => whnf
          refine ⟨_, _, ⟨rfl, rfl⟩, by repeat (first | exact hF | refine St.le_upd ?_ z8 _ | refine St.le_upd ?_ z10 _), ?_⟩
          exact concl_le (by unfold conclB; simp [hk1, h1, h2]) hS (by rw [hids]; exact rfl)
    | false =>
      conv => whnf
      cases hk3 : (k == 3) with
      | true =>
        have hk' : k = 3 := by simpa using hk3
        have hS := hS1 (by omega) (by omega)
        conv => whnf
        refine ⟨_, _, q10, ?_⟩
        conv => whnf
        -- (id == 0) the first, hk1, hk3 hB so far, (by rw [hids]; exact rfl) hx, q8 b8's fact, hS hS, (low == 0) the second
        cases h1 : (id == 0) with
        | false =>
          conv => whnf
          -- q8 b8's fact, hk1, hk3, h1 hB, hS hS, (by rw [hids]; exact rfl) hx
          refine ⟨_, _, q8, ?_⟩
          conv => whnf
          refine hQ _ _ _ (by simp) ?_
          -- hk1, hk3, h1 hB, hS hS, (by rw [hids]; exact rfl) hx
          conv => whnf
          refine ⟨_, _, St.upd_same _ _ _, ?_⟩
          conv => whnf
          refine ⟨_, _, ⟨rfl, rfl⟩, by repeat (first | exact hF | refine St.le_upd ?_ z8 _ | refine St.le_upd ?_ z10 _), ?_⟩
          exact concl_le (by unfold conclB; simp [hk1, hk3, h1]) hS (by rw [hids]; exact rfl)
        | true =>
          conv => whnf
          cases h2 : (low == 0) with
          | false =>
            conv => whnf
            -- q8 b8's fact, hk1, hk3, h1, h2 hB, hS hS, (by rw [hids]; exact rfl) hx
            refine ⟨_, _, q8, ?_⟩
            conv => whnf
            refine hQ _ _ _ (by simp) ?_
            -- hk1, hk3, h1, h2 hB, hS hS, (by rw [hids]; exact rfl) hx
            conv => whnf
            refine ⟨_, _, St.upd_same _ _ _, ?_⟩
            conv => whnf
            refine ⟨_, _, ⟨rfl, rfl⟩, by repeat (first | exact hF | refine St.le_upd ?_ z8 _ | refine St.le_upd ?_ z10 _), ?_⟩
            exact concl_le (by unfold conclB; simp [hk1, hk3, h1, h2]) hS (by rw [hids]; exact rfl)
          | true =>
            conv => whnf
            -- q8 b8's fact, hk1, hk3, h1, h2 hB, hS hS, (by rw [hids]; exact rfl) hx
            refine ⟨_, _, q8, ?_⟩
            conv => whnf
            refine hQ _ _ _ (by simp) ?_
            -- hk1, hk3, h1, h2 hB, hS hS, (by rw [hids]; exact rfl) hx
            conv => whnf
            refine ⟨_, _, St.upd_same _ _ _, ?_⟩
            conv => whnf
            refine ⟨_, _, ⟨rfl, rfl⟩, by repeat (first | exact hF | refine St.le_upd ?_ z8 _ | refine St.le_upd ?_ z10 _), ?_⟩
            exact concl_le (by unfold conclB; simp [hk1, hk3, h1, h2]) hS (by rw [hids]; exact rfl)
      | false =>
        conv => whnf
        cases hk2 : (k == 2) with
        | true =>
          have hk' : k = 2 := by simpa using hk2
          have hS := hS1 (by omega) (by omega)
          conv => whnf
          refine ⟨_, _, q10, ?_⟩
          conv => whnf
          -- decide (id ≥ 0) the first, hk1, hk3, hk2 hB so far, (by rw [hids]; exact rfl) hx, q8 b8's fact, hS hS, (low == 0) the second
          cases h1 : decide (id ≥ 0) with
          | false =>
            conv => whnf
            -- q8 b8's fact, hk1, hk3, hk2, h1 hB, hS hS, (by rw [hids]; exact rfl) hx
            refine ⟨_, _, q8, ?_⟩
            conv => whnf
            refine hQ _ _ _ (by simp) ?_
            -- hk1, hk3, hk2, h1 hB, hS hS, (by rw [hids]; exact rfl) hx
            conv => whnf
            refine ⟨_, _, St.upd_same _ _ _, ?_⟩
            conv => whnf
            refine ⟨_, _, ⟨rfl, rfl⟩, by repeat (first | exact hF | refine St.le_upd ?_ z8 _ | refine St.le_upd ?_ z10 _), ?_⟩
            exact concl_le (by unfold conclB; simp [hk1, hk3, hk2, h1]) hS (by rw [hids]; exact rfl)
          | true =>
            conv => whnf
            cases h2 : (low == 0) with
            | false =>
              conv => whnf
              -- q8 b8's fact, hk1, hk3, hk2, h1, h2 hB, hS hS, (by rw [hids]; exact rfl) hx
              refine ⟨_, _, q8, ?_⟩
              conv => whnf
              refine hQ _ _ _ (by simp) ?_
              -- hk1, hk3, hk2, h1, h2 hB, hS hS, (by rw [hids]; exact rfl) hx
              conv => whnf
              refine ⟨_, _, St.upd_same _ _ _, ?_⟩
              conv => whnf
              refine ⟨_, _, ⟨rfl, rfl⟩, by repeat (first | exact hF | refine St.le_upd ?_ z8 _ | refine St.le_upd ?_ z10 _), ?_⟩
              exact concl_le (by unfold conclB; simp [hk1, hk3, hk2, h1, h2]) hS (by rw [hids]; exact rfl)
            | true =>
              conv => whnf
              -- q8 b8's fact, hk1, hk3, hk2, h1, h2 hB, hS hS, (by rw [hids]; exact rfl) hx
              refine ⟨_, _, q8, ?_⟩
              conv => whnf
              refine hQ _ _ _ (by simp) ?_
              -- hk1, hk3, hk2, h1, h2 hB, hS hS, (by rw [hids]; exact rfl) hx
              conv => whnf
              refine ⟨_, _, St.upd_same _ _ _, ?_⟩
              conv => whnf
              refine ⟨_, _, ⟨rfl, rfl⟩, by repeat (first | exact hF | refine St.le_upd ?_ z8 _ | refine St.le_upd ?_ z10 _), ?_⟩
              exact concl_le (by unfold conclB; simp [hk1, hk3, hk2, h1, h2]) hS (by rw [hids]; exact rfl)
        | false =>
          conv => whnf
          cases hk6 : (k == 6) with
          | true =>
            have hk' : k = 6 := by simpa using hk6
            have hS : conclS k id low high = { zeroV with kind := 9, n6 := k, ids := idsC id, s8 := itoaS high } := by unfold conclS; rw [if_pos hk']
            conv => whnf
            refine (hih _).mono ?_
            rintro o T ⟨rfl, rfl⟩
            conv => whnf
            refine ⟨_, _, q10, ?_⟩
            conv => whnf
            refine ⟨_, _, St.upd_same _ _ _, ?_⟩
            conv => whnf
            -- decide (id > 0) the first, hk1, hk3, hk2, hk6 hB so far, (by rw [hids]; exact rfl) hx, St.ov n8 q8 b8's fact, hS hS, decide (high ≥ 0) the second
            cases h1 : decide (id > 0) with
            | false =>
              conv => whnf
              -- St.ov n8 q8 b8's fact, hk1, hk3, hk2, hk6, h1 hB, hS hS, (by rw [hids]; exact rfl) hx
              refine ⟨_, _, St.ov n8 q8, ?_⟩
              conv => whnf
              refine hQ _ _ _ (by simp) ?_
              -- hk1, hk3, hk2, hk6, h1 hB, hS hS, (by rw [hids]; exact rfl) hx
              conv => whnf
              refine ⟨_, _, St.upd_same _ _ _, ?_⟩
              conv => whnf
              refine ⟨_, _, ⟨rfl, rfl⟩, by repeat (first | exact hF | refine St.le_upd ?_ z8 _ | refine St.le_upd ?_ z10 _), ?_⟩
              exact concl_le (by unfold conclB; simp [hk1, hk3, hk2, hk6, h1]) hS (by rw [hids]; exact rfl)
            | true =>
              conv => whnf
              cases h2 : decide (high ≥ 0) with
              | false =>
                conv => whnf
                -- St.ov n8 q8 b8's fact, hk1, hk3, hk2, hk6, h1, h2 hB, hS hS, (by rw [hids]; exact rfl) hx
                refine ⟨_, _, St.ov n8 q8, ?_⟩
                conv => whnf
                refine hQ _ _ _ (by simp) ?_
                -- hk1, hk3, hk2, hk6, h1, h2 hB, hS hS, (by rw [hids]; exact rfl) hx
                conv => whnf
                refine ⟨_, _, St.upd_same _ _ _, ?_⟩
                conv => whnf
                refine ⟨_, _, ⟨rfl, rfl⟩, by repeat (first | exact hF | refine St.le_upd ?_ z8 _ | refine St.le_upd ?_ z10 _), ?_⟩
                exact concl_le (by unfold conclB; simp [hk1, hk3, hk2, hk6, h1, h2]) hS (by rw [hids]; exact rfl)
              | true =>
                conv => whnf
                -- St.ov n8 q8 b8's fact, hk1, hk3, hk2, hk6, h1, h2 hB, hS hS, (by rw [hids]; exact rfl) hx
                refine ⟨_, _, St.ov n8 q8, ?_⟩
                conv => whnf
                refine hQ _ _ _ (by simp) ?_
                -- hk1, hk3, hk2, hk6, h1, h2 hB, hS hS, (by rw [hids]; exact rfl) hx
                conv => whnf
                refine ⟨_, _, St.upd_same _ _ _, ?_⟩
                conv => whnf
                refine ⟨_, _, ⟨rfl, rfl⟩, by repeat (first | exact hF | refine St.le_upd ?_ z8 _ | refine St.le_upd ?_ z10 _), ?_⟩
                exact concl_le (by unfold conclB; simp [hk1, hk3, hk2, hk6, h1, h2]) hS (by rw [hids]; exact rfl)
          | false =>
            conv => whnf
            have hk6' : k ≠ 6 := by simpa using hk6
            cases hk5 : (k == 5) with
            | true =>
              have hk' : k = 5 := by simpa using hk5
              have hS : conclS k id low high = { zeroV with kind := 9, n6 := k, ids := idsC id, s7 := itoaS low, s8 := itoaS high } := by unfold conclS; rw [if_neg hk6', if_pos hk']
              conv => whnf
              refine (hil _).mono ?_
              rintro o T ⟨rfl, rfl⟩
              conv => whnf
              refine (hih _).mono ?_
              rintro o T ⟨rfl, rfl⟩
              conv => whnf
              refine ⟨_, _, q10, ?_⟩
              conv => whnf
              refine ⟨_, _, St.upd_same _ _ _, ?_⟩
              conv => whnf
              refine ⟨_, _, St.upd_same _ _ _, ?_⟩
              conv => whnf
              -- St.ov n8 (St.ov n8 q8) b8's fact, hk1, hk3, hk2, hk6, hk5 hB, hS hS, (by rw [hids]; exact rfl) hx
              refine ⟨_, _, St.ov n8 (St.ov n8 q8), ?_⟩
              conv => whnf
              refine hQ _ _ _ (by simp) ?_
              -- hk1, hk3, hk2, hk6, hk5 hB, hS hS, (by rw [hids]; exact rfl) hx
              conv => whnf
              refine ⟨_, _, St.upd_same _ _ _, ?_⟩
              conv => whnf
              refine ⟨_, _, ⟨rfl, rfl⟩, by repeat (first | exact hF | refine St.le_upd ?_ z8 _ | refine St.le_upd ?_ z10 _), ?_⟩
              exact concl_le (by unfold conclB; simp [hk1, hk3, hk2, hk6, hk5]) hS (by rw [hids]; exact rfl)
            | false =>
              have hk5' : k ≠ 5 := by simpa using hk5
              have hS := hS1 hk6' hk5'
              conv => whnf
              refine hK _ _ ?_
              clear hK hQ K
              conv => whnf
              refine ⟨_, _, q10, ?_⟩
              conv => whnf
              refine ⟨_, _, q8, ?_⟩
              -- hk1, hk3, hk2, hk6, hk5 hB, hS hS, (by rw [hids]; exact rfl) hx
              conv => whnf
              refine ⟨_, _, St.upd_same _ _ _, ?_⟩
              conv => whnf
              refine ⟨_, _, ⟨rfl, rfl⟩, by repeat (first | exact hF | refine St.le_upd ?_ z8 _ | refine St.le_upd ?_ z10 _), ?_⟩
              exact concl_le (by unfold conclB; simp [hk1, hk3, hk2, hk6, hk5]) hS (by rw [hids]; exact rfl)
end Go.Proofs.YtcpdgnkhkdddhaaGreatDoor.Aw

set_option maxRecDepth 100000
set_option linter.unusedVariables false
set_option linter.unusedSimpArgs false
namespace Go.Proofs.YtcpdgnkhkdddhaaGreatDoor.Aw
open Go Go.RowKit
variable {G : Nat → Option (List AV)}

structure OpC where
  kind : Int
  second : Bool
  ps : List (ByteArray × Int)
  bound : ByteArray
  ops : List OpV
  l : List Int
  a : Int
  b : Int
  c : Int
  d : Int
def opC (o : OpC) : List AV := [.int .i64 o.kind, .bool o.second, .sl .any 2 (rowsP o.ps), .str o.bound, .sl .any 3 (rowsO o.ops), .sl .any 1 (rowsI o.l), .int .i64 o.a, .int .i64 o.b, .int .i64 o.c, .int .i64 o.d]
def rowsC (l : List OpC) : List (List AV) := l.map opC
@[simp] theorem rowsC_len (l : List OpC) : (rowsC l).length = l.length := by simp [rowsC]
structure SzOp (o : OpC) : Prop where
  bound : o.bound.size ≤ 9223372036854775807
  ps : ∀ p ∈ o.ps, p.1.size ≤ 9223372036854775807
  ops : ∀ p ∈ o.ops, p.2.1.size ≤ 9223372036854775807
  l : o.l.length ≤ 9223372036854775807
structure IntOp (o : OpC) : Prop where
  ps : ∀ p ∈ o.ps, okI p.2
  ops : ∀ p ∈ o.ops, okI p.2.2
  l : ∀ z ∈ o.l, okI z
  a : okI o.a
  b : okI o.b
  c : okI o.c
  d : okI o.d
def cntO (x : Int) (o : OpC) : Int := cnt (cntL (cntRow x o.ps o.bound) (o.ops.map fun p => p.2.1)) o.l.length
def cntOs : Int → List OpC → Int
  | x, [] => x
  | x, v :: l => if 0 ≤ x then cntOs (cntO x v) l else x
theorem awp_block {C : Cx} {id : Nat} {c : Go.Code} {env : Env} {S : St} {Q : AExit → Env → St → Prop} (h : awp P C c env S fun e env' S' => match e with
      | .exit id' => (bif Nat.beq id' id then Q .normal env' S' else Q (.exit id') env' S')
      | e => Q e env' S') : awp P C (.block id c) env S Q := h
theorem few_ok (l : List OpC) (hs : ∀ o ∈ l, SzOp o) (S : St) :
    Triple P (C G) 23 [.sl .any 10 (rowsC l)] S fun o S' => o = .ret (.bool (decide (0 ≤ cntOs 20000 l) && decide (l.length ≤ 200))) ∧ S' = S := by
  have hmany := fun S => CMany_ok (G := G) 20000 S
  refine triple_of_awp (hT G) hm Tryz.func23 rfl (by decide +kernel) rfl (by decide +kernel) (by show 1 ≤ _; decide +kernel) rfl ?_
  refine awp_seq2 fun K hK hQ => ?_
  conv => whnf
  refine hK _ _ ?_
  clear hK hQ K
  refine awp_seq2 fun K hK hQ => ?_
  conv => whnf
  refine (hmany _).mono ?_
  rintro o T ⟨b, hb, rfl, rfl⟩
  conv => whnf
  refine hK _ _ ?_
  clear hK hQ K
  refine awp_seq2 fun K hK hQ => ?_
  conv => whnf
  refine ⟨⟨Nat × Int, fun z => [(0, .sl .any 10 (rowsC l)), (3, .ref b 0), (4, .int .i64 (z.1 : Int))],
    fun z S' => S' = S.upd b (.obj 111 [.int .i64 z.2]) ∧ OkC z.2 ∧ z.1 ≤ l.length ∧ cntOs z.2 (l.drop z.1) = cntOs 20000 l, fun z => l.length - z.1⟩,
    ⟨(0, 20000), ⟨⟨rfl, rfl⟩, rfl, rfl, trivial⟩, _, St.leW_refl _, rfl, ⟨by decide, by decide⟩, by simp, rfl⟩, ?_⟩
  rintro ⟨i, y⟩ S' ⟨rfl, hy, hi, he⟩
  dsimp only at hy hi he
  have h' : CntAt (S.upd b (.obj 111 [.int .i64 y])) b y := St.upd_same _ _ _
  have hok := COk_ok (G := G) h'
  refine awp_seq2 fun K2 hK2 hQ2 => ?_
  conv => whnf
  intro hlen
  conv => whnf
  by_cases hlt : i < l.length
  · rw [show decide ((i : Int) < ((rowsC l).length : Int)) = true from decide_eq_true (by rw [rowsC_len]; omega)]
    have hd : l.drop i = l[i] :: l.drop (i + 1) := List.drop_eq_getElem_cons hlt
    rw [hd] at he
    simp only [cntOs] at he
    have hsi := hs _ (List.getElem_mem hlt)
    have ga : (rowsC l)[(i : Int).toNat]? = some (opC l[i]) := by simp [rowsC, hlt]
    rw [rowsC_len] at hlen
    generalize l[i] = e at *
    conv => whnf
    refine hok.mono ?_
    rintro o T ⟨rfl, rfl⟩
    conv => whnf
    refine split_of (fun hp => ?_) (fun hp => ?_)
    · have hp : 0 ≤ y := of_decide_eq_true hp
      rw [if_pos hp] at he
      have w1 : IntKind.i64.wrap ((i : Int) + 1) = ((i + 1 : Nat) : Int) := wrap_nat (by omega)
      have hR := Row_c (G := G) h' hy e.ps e.bound hsi.bound hsi.ps
      rw [St.upd_upd] at hR
      have hy2 := cntRow_ok hy e.ps e.bound hsi.bound hsi.ps
      have h2 : CntAt (S.upd b (.obj 111 [.int .i64 (cntRow y e.ps e.bound)])) b (cntRow y e.ps e.bound) := St.upd_same _ _ _
      have hO := Ops_c (G := G) h2 hy2 e.ops hsi.ops
      rw [St.upd_upd] at hO
      have hy3 := cntL_ok (e.ops.map fun p => p.2.1) hy2 (by intro s hs; obtain ⟨p, hp, rfl⟩ := List.mem_map.1 hs; exact hsi.ops p hp)
      have h3 : CntAt (S.upd b (.obj 111 [.int .i64 (cntL (cntRow y e.ps e.bound) (e.ops.map fun p => p.2.1))])) b (cntL (cntRow y e.ps e.bound) (e.ops.map fun p => p.2.1)) := St.upd_same _ _ _
      have hl0 := hsi.l
      have hA := CAdd_ok (G := G) h3 hy3 e.l.length (by omega) (by omega)
      rw [St.upd_upd] at hA
      have hy4 := cnt_ok hy3 (n := e.l.length) (by omega) (by omega)
      conv => whnf
      refine hK2 _ _ ?_
      clear hK2 hQ2 K2
      refine awp_seq2 fun K2 hK2 hQ2 => ?_
      refine awp_block ?_
      refine awp_seq2 fun K3 hK3 hQ3 => ?_
      conv => whnf
      refine ⟨_, ⟨by omega, ga⟩, ?_⟩
      conv => whnf
      refine hR.mono ?_
      rintro o T ⟨rfl, rfl⟩
      conv => whnf
      refine hK3 _ _ ?_
      clear hK3 hQ3 K3
      refine awp_seq2 fun K3 hK3 hQ3 => ?_
      conv => whnf
      refine ⟨_, ⟨by omega, ga⟩, ?_⟩
      conv => whnf
      refine hO.mono ?_
      rintro o T ⟨rfl, rfl⟩
      conv => whnf
      refine hK3 _ _ ?_
      clear hK3 hQ3 K3
      conv => whnf
      refine ⟨_, ⟨by omega, ga⟩, ?_⟩
      conv => whnf
      intro _
      rw [rowsI_len]
      conv => whnf
      refine hA.mono ?_
      rintro o T ⟨⟨r, rfl⟩, rfl⟩
      conv => whnf
      refine hK2 _ _ ?_
      clear hK2 hQ2 K2
      conv => whnf
      exact ⟨(i + 1, _), ⟨⟨rfl, rfl⟩, rfl, congrArg _ w1, trivial⟩, ⟨_, St.leW_refl _, rfl, hy4, hlt, he⟩, by show l.length - (i + 1) < l.length - i; omega⟩
    · have hp : ¬ 0 ≤ y := of_decide_eq_false hp
      rw [if_neg hp] at he
      conv => whnf
      refine hQ2 _ _ _ (by simp) ?_
      clear hK2 hQ2 K2
      conv => whnf
      refine hK _ _ ?_
      clear hK hQ K
      conv => whnf
      refine hok.mono ?_
      rintro o T ⟨rfl, rfl⟩
      rw [show decide (0 ≤ y) = false from decide_eq_false hp]
      conv => whnf
      exact ⟨.bool false, _, ⟨by rw [← he, decide_eq_false hp]; rfl, rfl⟩, St.le_upd' (St.le_refl _) hb _, rfl⟩
  · rw [show decide ((i : Int) < ((rowsC l).length : Int)) = false from decide_eq_false (by rw [rowsC_len]; omega)]
    have hd : l.drop i = [] := List.drop_eq_nil_of_le (by omega)
    rw [hd] at he
    have he : y = cntOs 20000 l := he
    conv => whnf
    refine hQ2 _ _ _ (by simp) ?_
    clear hK2 hQ2 K2
    conv => whnf
    refine hK _ _ ?_
    clear hK hQ K
    conv => whnf
    refine hok.mono ?_
    rintro o T ⟨rfl, rfl⟩
    conv => whnf
    by_cases hp : 0 ≤ y
    · rw [decide_eq_true hp]
      conv => whnf
      intro _
      conv => whnf
      refine ⟨_, _, ⟨by rw [← he, decide_eq_true hp, Bool.true_and], rfl⟩, St.le_upd' (St.le_refl _) hb _, ?_⟩
      rw [rowsC_len]
      exact congrArg AV.bool (by rw [decide_eq_decide]; omega)
    · rw [decide_eq_false hp]
      conv => whnf
      exact ⟨.bool false, _, ⟨by rw [← he, decide_eq_false hp]; rfl, rfl⟩, St.le_upd' (St.le_refl _) hb _, rfl⟩
end Go.Proofs.YtcpdgnkhkdddhaaGreatDoor.Aw

set_option maxRecDepth 100000
set_option linter.unusedVariables false
set_option linter.unusedSimpArgs false
namespace Go.Proofs.YtcpdgnkhkdddhaaGreatDoor.Aw
open Go Go.RowKit

/-! ### Plain: what they weigh -/
def costO (o : OpC) : Nat := wS1 o.bound + wL (o.ps.map fun p => p.1) + wL (o.ops.map fun p => p.2.1) + o.l.length
def costs (l : List OpC) : Nat := (l.map costO).sum
theorem cntO_back {x : Int} {o : OpC} (h : 0 ≤ cntO x o) : 0 ≤ x ∧ cntO x o = x - (costO o : Nat) := by
  unfold cntO at h ⊢
  obtain ⟨h1, e1⟩ := cnt_back (by omega) h
  rw [e1] at h ⊢
  obtain ⟨h2, e2⟩ := cntL_back h1
  unfold cntRow at h2 e2 ⊢
  obtain ⟨h3, e3⟩ := cntL_back h2
  obtain ⟨h4, e4⟩ := cntT_back h3
  refine ⟨h4, ?_⟩
  rw [e2, e3, e4]
  unfold costO
  omega
theorem cntOs_back : ∀ {l : List OpC} {x : Int}, 0 ≤ cntOs x l → 0 ≤ x ∧ cntOs x l = x - (costs l : Nat)
  | [], x, h => ⟨h, by simp [cntOs, costs]⟩
  | v :: l, x, h => by
    unfold cntOs at h ⊢
    split
    · rename_i h0
      rw [if_pos h0] at h
      obtain ⟨h1, e1⟩ := cntOs_back h
      obtain ⟨h2, e2⟩ := cntO_back h1
      refine ⟨h0, ?_⟩
      rw [e1, e2]
      simp only [costs, List.map_cons, List.sum_cons]
      omega
    · rename_i h0
      rw [if_neg h0] at h
      exact absurd h h0
theorem ids_sum' (l : List ByteArray) : sumS l + l.length = wL l := by
  induction l with
  | nil => simp [sumS, wL]
  | cons x l ih =>
    have e : wL (x :: l) = wS1 x + wL l := by simp [wL]
    rw [e]
    unfold wS1
    simp only [sumS_cons, List.length_cons] at ih ⊢
    omega
set_option maxHeartbeats 2000000 in
theorem textT_c {v : StepV} (hi : IntStep v) {n : Nat} (hn : wt v = n + wL v.ids) : (textT v).size ≤ 26 * n + 2 * wL v.ids + 60 := by
  have h0 := joinS_sum (textW v) spaceS
  have e : spaceS.size = 1 := rfl
  rw [e] at h0
  have h1 : sumS (v.ops.map opT) + v.ops.length ≤ 26 * wL (v.ops.map fun o => o.2.1) := ops_sum v.ops hi.ops
  have h2 := rowT_len v.pieces v.bound hi.pieces
  have h3 := lits_sum v.lits hi.lits
  have h4 := ids_sum' v.ids
  have h5 := endT_len v
  have e1 : w1S.size = 32 := rfl
  have e2 : kF.size = 1 := rfl
  have e3 : kPol.size = 3 := rfl
  have e4 : kRup.size = 3 := rfl
  have e5 : kE.size = 1 := rfl
  have e6 : kSoli.size = 4 := rfl
  have e7 : kSolx.size = 4 := rfl
  have e8 : kDel.size = 3 := rfl
  have e9 : kStar.size = 1 := rfl
  have e10 : w8S.size = 11 := rfl
  have e11 : kConc.size = 10 := rfl
  have e12 : w10S.size = 24 := rfl
  have e13 : (⟨#[105, 100]⟩ : ByteArray).size = 2 := rfl
  unfold textT
  refine Nat.le_trans h0 ?_
  unfold wt wS1 at hn
  unfold textW
  repeat' split
  all_goals simp only [sumS_append, sumS_cons, sumS_nil, List.length_append, List.length_cons, List.length_nil, List.length_map, e1, e2, e3, e4, e5, e6, e7, e8, e9, e10, e11, e12, e13]
  all_goals omega
theorem ok_of_wt' {v : StepV} (h : wt v ≤ 1000000) (hi : IntStep v) : OkStep v := by
  unfold wt at h
  have h1 := wL_len (v.ops.map fun o => o.2.1)
  have h2 := wL_len (v.pieces.map fun o => o.1)
  have h3 := wL_len v.ids
  rw [List.length_map] at h1 h2
  have e1 : v.num.size ≤ wS1 v.num := by unfold wS1; omega
  have e2 : v.s7.size ≤ wS1 v.s7 := by unfold wS1; omega
  have e3 : v.s8.size ≤ wS1 v.s8 := by unfold wS1; omega
  have e4 : v.bound.size ≤ wS1 v.bound := by unfold wS1; omega
  refine ⟨⟨by omega, fun o ho => ⟨hi.ops o ho, ?_⟩⟩, ⟨by omega, fun p hp => ⟨hi.pieces p hp, ?_⟩, by omega⟩, ⟨by omega, hi.lits⟩, ⟨by omega, fun x hx => ?_⟩, by omega, by omega, by omega⟩
  · have := wL_mem (l := v.ops.map fun o => o.2.1) o.2.1 (List.mem_map.2 ⟨o, ho, rfl⟩); omega
  · have := wL_mem (l := v.pieces.map fun o => o.1) p.1 (List.mem_map.2 ⟨p, hp, rfl⟩); omega
  · have := wL_mem x hx; omega
theorem wL_dec (l : List Int) (hl : ∀ z ∈ l, okI z) : wL (decL l) ≤ 22 * l.length := by
  induction l with
  | nil => simp [decL, wL]
  | cons z l ih =>
    have ih := ih fun x hx => hl x (by simp [hx])
    have h1 := itoaS_le z (hl z (by simp)).1 (hl z (by simp)).2
    have e : wL (decL (z :: l)) = wS1 (itoaS z) + wL (decL l) := by simp [decL, wL]
    rw [e]
    unfold wS1
    simp only [List.length_cons]
    omega
end Go.Proofs.YtcpdgnkhkdddhaaGreatDoor.Aw

set_option maxRecDepth 100000
set_option linter.unusedVariables false
set_option linter.unusedSimpArgs false
namespace Go.Proofs.YtcpdgnkhkdddhaaGreatDoor.Aw
open Go Go.RowKit
variable {G : Nat → Option (List AV)}

/-- A step of so many bytes at most. -/
structure SmallS (v : StepV) (n : Nat) : Prop where
  ok : OkStep v
  text : (textT v).size ≤ n
theorem small_of {v : StepV} (hi : IntStep v) {n B : Nat} (hw : wt v = n + wL v.ids) (h1 : wt v ≤ 1000000) (h2 : 26 * n + 2 * wL v.ids + 60 ≤ B) : SmallS v B :=
  ⟨ok_of_wt' h1 hi, Nat.le_trans (textT_c hi hw) h2⟩
theorem int_none {v : StepV} (h1 : v.ops = []) (h2 : v.pieces = []) (h3 : v.lits = []) : IntStep v :=
  ⟨fun o ho => (by rw [h1] at ho; cases ho), fun o ho => (by rw [h2] at ho; cases ho), fun o ho => (by rw [h3] at ho; cases ho)⟩
theorem small_kind (k : Int) : SmallS (kindS k) 200 := small_of (int_none rfl rfl rfl) (n := 4) rfl (show 4 ≤ 1000000 by decide) (show 26 * 4 + 2 * 0 + 60 ≤ 200 by decide)
theorem small_count (n : Int) (hn : okI n) : SmallS (countS (itoaS n)) 1000 := by
  have h := itoaS_le n hn.1 hn.2
  have hw : wt (countS (itoaS n)) = (4 + (itoaS n).size) + wL (countS (itoaS n)).ids := by
    show (1 + (itoaS n).size) + 1 + 1 + 0 + 1 + 0 + 0 + 0 = (4 + (itoaS n).size) + 0
    omega
  have h0 : wL (countS (itoaS n)).ids = 0 := rfl
  exact small_of (int_none rfl rfl rfl) hw (by omega) (by omega)
theorem small_concl (k id low high : Int) (hi : okI id) (hlo : okI low) (hhi : okI high) : SmallS (conclS k id low high) 2000 := by
  have h1 := itoaS_le low hlo.1 hlo.2
  have h2 := itoaS_le high hhi.1 hhi.2
  have h3 : wL (idsC id) ≤ 22 := by
    unfold idsC
    split
    · exact wL_dec [id] (by simpa using hi)
    · exact Nat.zero_le _
  have e0 : wS1 ByteArray.empty = 1 := rfl
  unfold conclS
  split
  · refine small_of (int_none rfl rfl rfl) (n := 4 + (itoaS high).size) ?_ ?_ ?_
    · show 1 + 1 + (1 + (itoaS high).size) + 0 + 1 + 0 + 0 + wL (idsC id) = (4 + (itoaS high).size) + wL (idsC id)
      omega
    · show 1 + 1 + (1 + (itoaS high).size) + 0 + 1 + 0 + 0 + wL (idsC id) ≤ 1000000
      omega
    · show 26 * (4 + (itoaS high).size) + 2 * wL (idsC id) + 60 ≤ 2000
      omega
  split
  · refine small_of (int_none rfl rfl rfl) (n := 4 + (itoaS low).size + (itoaS high).size) ?_ ?_ ?_
    · show 1 + (1 + (itoaS low).size) + (1 + (itoaS high).size) + 0 + 1 + 0 + 0 + wL (idsC id) = (4 + (itoaS low).size + (itoaS high).size) + wL (idsC id)
      omega
    · show 1 + (1 + (itoaS low).size) + (1 + (itoaS high).size) + 0 + 1 + 0 + 0 + wL (idsC id) ≤ 1000000
      omega
    · show 26 * (4 + (itoaS low).size + (itoaS high).size) + 2 * wL (idsC id) + 60 ≤ 2000
      omega
  · refine small_of (int_none rfl rfl rfl) (n := 4) ?_ ?_ ?_
    · show 1 + 1 + 1 + 0 + 1 + 0 + 0 + wL (idsC id) = 4 + wL (idsC id)
      omega
    · show 1 + 1 + 1 + 0 + 1 + 0 + 0 + wL (idsC id) ≤ 1000000
      omega
    · show 26 * 4 + 2 * wL (idsC id) + 60 ≤ 2000
      omega
theorem small_row (k : Int) (ps : List (ByteArray × Int)) (bound : ByteArray) (l : List Int) (hp : ∀ p ∈ ps, okI p.2) (hl : ∀ z ∈ l, okI z) {c : Nat} (hc : wS1 bound + wL (ps.map fun p => p.1) + l.length ≤ c) (hc2 : c ≤ 30000) :
    SmallS { zeroV with kind := k, pieces := ps, bound := bound, ids := decL l } (70 * c + 500) := by
  have h1 := wL_dec l hl
  have e : wt { zeroV with kind := k, pieces := ps, bound := bound, ids := decL l } = (3 + wS1 bound + wL (ps.map fun p => p.1)) + wL (decL l) := by
    show 1 + 1 + 1 + 0 + wS1 bound + wL (ps.map fun p => p.1) + 0 + wL (decL l) = _
    omega
  exact small_of ⟨fun o ho => (by cases ho), hp, fun o ho => (by cases ho)⟩ e (by rw [e]; omega) (by show 26 * (3 + wS1 bound + wL (ps.map fun p => p.1)) + 2 * wL (decL l) + 60 ≤ _; omega)
theorem small_del (l : List Int) (hl : ∀ z ∈ l, okI z) {c : Nat} (hc : l.length ≤ c) (hc2 : c ≤ 20000) : SmallS (delS (decL l)) (70 * c + 500) := by
  have h1 := wL_dec l hl
  have e : wt (delS (decL l)) = 4 + wL (decL l) := by
    show 1 + 1 + 1 + 0 + 1 + 0 + 0 + wL (decL l) = _
    omega
  exact small_of (int_none rfl rfl rfl) e (by rw [e]; omega) (by show 26 * 4 + 2 * wL (decL l) + 60 ≤ _; omega)
theorem small_pol (l : List OpV) (hl : ∀ o ∈ l, okI o.2.2) {c : Nat} (hc : wL (l.map fun p => p.2.1) ≤ c) (hc2 : c ≤ 20000) : SmallS (polS l) (70 * c + 500) := by
  have e : wt (polS l) = (4 + wL (l.map fun p => p.2.1)) + wL (polS l).ids := by
    show 1 + 1 + 1 + wL (l.map fun p => p.2.1) + 1 + 0 + 0 + 0 = (4 + wL (l.map fun p => p.2.1)) + 0
    omega
  have h0 : wL (polS l).ids = 0 := rfl
  exact small_of ⟨hl, fun o ho => (by cases ho), fun o ho => (by cases ho)⟩ e (by rw [e]; omega) (by rw [h0]; omega)
theorem small_lits (k : Int) (l : List Int) (hl : ∀ z ∈ l, okI z) {c : Nat} (hc : l.length ≤ c) (hc2 : c ≤ 20000) : SmallS { zeroV with kind := k, lits := l } (70 * c + 500) := by
  have e : wt { zeroV with kind := k, lits := l } = (4 + l.length) + wL [] := by
    show 1 + 1 + 1 + 0 + 1 + 0 + l.length + 0 = (4 + l.length) + 0
    omega
  have h0 : wL [] = 0 := rfl
  exact small_of ⟨fun o ho => (by cases ho), fun o ho => (by cases ho), hl⟩ e (by rw [e]; omega) (by show 26 * (4 + l.length) + 2 * 0 + 60 ≤ _; omega)
/-! ### How a log grows -/
theorem logT_len (st : List StepV) (v : StepV) : (logT (st ++ [v])).length = (logT st).length + (textT v).size + 1 := by
  have : (textT v).data.toList.length = (textT v).size := by rw [Array.length_toList]; rfl
  rw [logT_snoc]
  simp only [List.length_append, List.length_cons, List.length_nil, this]
structure GrowW (w w' : LogV) (k n : Nat) : Prop where
  len : w'.st.length ≤ w.st.length + k
  size : (logT w'.st).length ≤ (logT w.st).length + n
  next : w'.next = w.next
  goal : w'.goal = w.goal
  over : w'.over = w.over
theorem layV_grow (w : LogV) (v : StepV) : GrowW w (layV w v).2 1 ((textT v).size + 1) := by
  unfold layV
  split
  · exact ⟨by dsimp only; omega, by dsimp only; omega, rfl, rfl, rfl⟩
  split
  · exact ⟨by simp, by rw [logT_len]; omega, rfl, rfl, rfl⟩
  · exact ⟨by dsimp only; omega, by dsimp only; omega, rfl, rfl, rfl⟩
theorem GrowW.trans {a b c : LogV} {k n k' n' : Nat} (h : GrowW a b k n) (h' : GrowW b c k' n') : GrowW a c (k + k') (n + n') :=
  ⟨by have := h.len; have := h'.len; omega, by have := h.size; have := h'.size; omega, h'.next.trans h.next, h'.goal.trans h.goal, h'.over.trans h.over⟩
theorem fits_of {w : LogV} {v : StepV} {n : Nat} (h : SmallS v n) (hn : n ≤ 8999999) (h1 : w.st.length ≤ 1000000) (h2 : (logT w.st).length ≤ 1000000000) : Fits w v := ⟨h.ok, Nat.le_trans h.text hn, h1, h2⟩
theorem TipOk.down {S₀ S₁ S : St} {b : Nat} {e : TypeId} {k n : Nat} (h : TipOk S₁ S b e k n) (hle : St.le S₀ S₁) : TipOk S₀ S b e k n := fun hn => ⟨(h hn).1, St.le_none hle (h hn).2⟩
theorem LogB.down {S₀ S₁ S : St} {wb b1 n1 b2 n2 : Nat} {cells : List AV} (h : LogB S₁ S wb cells b1 n1 b2 n2) (hle : St.le S₀ S₁) : LogB S₀ S wb cells b1 n1 b2 n2 :=
  ⟨St.le_trans hle h.le, St.le_none hle h.new, h.at_, h.t1.down hle, h.t2.down hle⟩
theorem Log.down {S₀ S₁ S : St} {wb : Nat} {w : LogV} (h : Log S₁ S wb w) (hle : St.le S₀ S₁) : Log S₀ S wb w := by
  obtain ⟨b1, b2, h⟩ := h
  exact ⟨b1, b2, h.down hle⟩
/-! ### The end -/
def endV (w : LogV) (k id low high : Int) : Int × LogV :=
  if w.over then (161, w) else if conclB k id low high then (0, { (layV (layV (layV w (kindS 8)).2 (conclS k id low high)).2 (kindS 10)).2 with over := true }) else (160, w)
theorem End_ok (hG : GS G) (hA : GAs G) {S₀ S : St} {wb : Nat} {w : LogV} (h : Log S₀ S wb w) (k id low high : Int) (hi : okI id) (hlo : okI low) (hhi : okI high) (hn : w.st.length ≤ 900000) (hsz : (logT w.st).length ≤ 900000000) :
    Triple P (C G) 32 [.ref wb 0, .int .i64 k, .int .i64 id, .int .i64 low, .int .i64 high] S fun o S' => o = .ret (.int .i64 (endV w k id low high).1) ∧ Log S₀ S' wb (endV w k id low high).2 := by
  have hc := fun S => concl_w_ok (G := G) hG k id low high hi hlo hhi S
  have s8 := small_kind 8
  have s9 := small_concl k id low high hi hlo hhi
  have s10 := small_kind 10
  have g8 := layV_grow w (kindS 8)
  have g9 := layV_grow (layV w (kindS 8)).2 (conclS k id low high)
  have f8 : Fits w (kindS 8) := fits_of s8 (by decide) (by omega) (by omega)
  have l8 := g8.len
  have z8 := g8.size
  have t8 := s8.text
  have f9 : Fits (layV w (kindS 8)).2 (conclS k id low high) := fits_of s9 (by decide) (by omega) (by omega)
  have l9 := g9.len
  have z9 := g9.size
  have t9 := s9.text
  have f10 : Fits (layV (layV w (kindS 8)).2 (conclS k id low high)).2 (kindS 10) := fits_of s10 (by decide) (by omega) (by omega)
  obtain ⟨b1, b2, h'⟩ := h
  have hat := h'.at_
  unfold logC at hat
  unfold endV
  by_cases ho : w.over = true
  · rw [if_pos ho]
    rw [ho] at hat
    refine triple_of_awp (hT G) hm Tryz.func32 rfl (by decide +kernel) rfl (by decide +kernel) (by show 5 ≤ _; decide +kernel) rfl ?_
    refine awp_seq2 fun K hK hQ => ?_
    conv => whnf
    refine hK _ _ ?_
    clear hK hQ K
    refine awp_seq2 fun K hK hQ => ?_
    conv => whnf
    refine ⟨_, _, hat, ?_⟩
    conv => whnf
    refine hQ _ _ _ (by simp) ?_
    conv => whnf
    exact ⟨_, _, ⟨rfl, b1, b2, h'⟩, St.le_refl _, AV.leS_refl _ _ _⟩
  have ho : w.over = false := by simpa using ho
  rw [if_neg (by rw [ho]; decide)]
  rw [ho] at hat
  have hl8 := fun {S₀ S : St} (h : Log S₀ S wb w) => lay_ok (G := G) hG hA h f8 (xs := [.int .i64 8, .str ByteArray.empty, .nils, .nils, .str ByteArray.empty, .nils, .nils, .int .i64 0, .str ByteArray.empty, .str ByteArray.empty]) ⟨rfl, rfl, rfl, rfl, rfl, rfl, rfl, rfl, rfl, rfl, trivial⟩
  have hl9 := fun {S₀ S : St} (h : Log S₀ S wb (layV w (kindS 8)).2) => lay_ok (G := G) hG hA h f9 (leL_refl _)
  have hl10 := fun {S₀ S : St} (h : Log S₀ S wb (layV (layV w (kindS 8)).2 (conclS k id low high)).2) => lay_ok (G := G) hG hA h f10 (xs := [.int .i64 10, .str ByteArray.empty, .nils, .nils, .str ByteArray.empty, .nils, .nils, .int .i64 0, .str ByteArray.empty, .str ByteArray.empty]) ⟨rfl, rfl, rfl, rfl, rfl, rfl, rfl, rfl, rfl, rfl, trivial⟩
  generalize conclS k id low high = v at *
  generalize (layV (layV (layV w (kindS 8)).2 v).2 (kindS 10)).2 = w10 at *
  generalize (layV (layV w (kindS 8)).2 v).1 = e9 at *
  generalize (layV (layV w (kindS 8)).2 v).2 = w9 at *
  generalize (layV w9 (kindS 10)).1 = e10 at *
  generalize (layV w (kindS 8)).1 = e8 at *
  generalize (layV w (kindS 8)).2 = w8 at *
  clear g8 g9 f8 f9 f10 l8 z8 t8 l9 z9 t9 s8 s9 s10
  cases hcb : conclB k id low high with
  | false =>
    rw [hcb] at hc
    rw [if_neg (by decide)]
    refine triple_of_awp (hT G) hm Tryz.func32 rfl (by decide +kernel) rfl (by decide +kernel) (by show 5 ≤ _; decide +kernel) rfl ?_
    refine awp_seq2 fun K hK hQ => ?_
    conv => whnf
    refine hK _ _ ?_
    clear hK hQ K
    refine awp_seq2 fun K hK hQ => ?_
    conv => whnf
    refine ⟨_, _, hat, ?_⟩
    conv => whnf
    refine hK _ _ ?_
    clear hK hQ K
    refine awp_seq2 fun K hK hQ => ?_
    conv => whnf
    refine (hc _).mono ?_
    rintro o T ⟨rfl, rfl⟩
    conv => whnf
    intro b11 hb11
    conv => whnf
    refine ⟨_, _, St.upd_same _ _ _, ?_⟩
    conv => whnf
    rw [St.upd_upd]
    refine hK _ _ ?_
    clear hK hQ K
    refine awp_seq2 fun K hK hQ => ?_
    conv => whnf
    refine hQ _ _ _ (by simp) ?_
    conv => whnf
    exact ⟨_, _, ⟨rfl, b1, b2, h'.more hb11 _⟩, St.le_refl _, AV.leS_refl _ _ _⟩
  | true =>
    rw [hcb] at hc
    rw [if_pos rfl]
    refine triple_of_awp (hT G) hm Tryz.func32 rfl (by decide +kernel) rfl (by decide +kernel) (by show 5 ≤ _; decide +kernel) rfl ?_
    refine awp_seq2 fun K hK hQ => ?_
    conv => whnf
    refine hK _ _ ?_
    clear hK hQ K
    refine awp_seq2 fun K hK hQ => ?_
    conv => whnf
    refine ⟨_, _, hat, ?_⟩
    conv => whnf
    refine hK _ _ ?_
    clear hK hQ K
    refine awp_seq2 fun K hK hQ => ?_
    conv => whnf
    refine (hc _).mono ?_
    rintro o T ⟨rfl, rfl⟩
    conv => whnf
    intro b11 hb11
    conv => whnf
    refine ⟨_, _, St.upd_same _ _ _, ?_⟩
    conv => whnf
    rw [St.upd_upd]
    refine hK _ _ ?_
    clear hK hQ K
    have n11 : b11 ≠ wb := fun e => by rw [e, hat] at hb11; cases hb11
    have hB : Log (S₀.upd b11 (.obj 54 (stepR v))) (T.upd b11 (.obj 54 (stepR v))) wb w := Log.over ⟨b1, b2, h'⟩ (.inl hb11) _
    have hz11 := St.le_none h'.le hb11
    refine awp_seq2 fun K hK hQ => ?_
    conv => whnf
    refine hK _ _ ?_
    clear hK hQ K
    refine awp_seq2 fun K hK hQ => ?_
    conv => whnf
    refine (hl8 hB).mono ?_
    rintro o T1 ⟨rfl, hB1⟩
    conv => whnf
    refine hK _ _ ?_
    clear hK hQ K hB
    have hB1c := hB1
    obtain ⟨c1, c2, hB1'⟩ := hB1c
    have q11 := hB1'.le _ _ (St.upd_same _ _ _)
    refine awp_seq2 fun K hK hQ => ?_
    refine ⟨[], (.free 0 (.free 1 (.free 2 (.free 3 (.one 4 .done .none))))), _, by decide +kernel, ?_, fun _ _ h => ⟨_, .inl rfl, h⟩⟩
    conv => whnf
    refine ⟨_, _, q11, ?_⟩
    conv => whnf
    refine (hl9 hB1).mono ?_
    rintro o T2 ⟨rfl, hB2⟩
    conv => whnf
    refine hK _ _ ?_
    clear hK hQ K hB1 hB1' q11
    refine awp_seq2 fun K hK hQ => ?_
    conv => whnf
    refine (hl10 hB2).mono ?_
    rintro o T3 ⟨rfl, hB3⟩
    conv => whnf
    refine hK _ _ ?_
    clear hK hQ K hB2
    obtain ⟨d1, d2, hB3⟩ := hB3
    have h3 := hB3.at_
    unfold logC at h3
    refine awp_seq2 fun K hK hQ => ?_
    conv => whnf
    refine ⟨_, _, h3, ?_⟩
    conv => whnf
    refine hK _ _ ?_
    clear hK hQ K
    conv => whnf
    have hE : LogB S₀ T3 wb (logC w10 d1 d2) d1 w10.st.length d2 (logT w10.st).length := hB3.down (St.le_upd' (St.le_refl _) hz11 _)
    exact ⟨_, _, ⟨rfl, d1, d2, hE.put _⟩, St.le_refl _, AV.leS_refl _ _ _⟩
end Go.Proofs.YtcpdgnkhkdddhaaGreatDoor.Aw

set_option maxRecDepth 100000
set_option linter.unusedVariables false
set_option linter.unusedSimpArgs false
namespace Go.Proofs.YtcpdgnkhkdddhaaGreatDoor.Aw
open Go Go.RowKit
variable {G : Nat → Option (List AV)}

def rows0 (rows : Int) : Int := if 0 > rows then 0 else rows
def newV (rows : Int) (goal : Bool) : LogV := (layV (layV ⟨[], false, rows0 rows + 1, goal⟩ (kindS 1)).2 (countS (itoaS (rows0 rows)))).2
theorem New_ok (hG : GS G) (hA : GAs G) (rows : Int) (goal : Bool) (hr : rows ≤ 1152921504606846976) (S : St) :
    Triple P (C G) 24 [.int .i64 rows, .bool goal] S fun o S' => ∃ wb, o = .ret (.ref wb 0) ∧ Log S S' wb (newV rows goal) := by
  have h0 : 0 ≤ rows0 rows ∧ rows0 rows ≤ 1152921504606846976 := by unfold rows0; split <;> omega
  have s1 := small_kind 1
  have s2 := small_count (rows0 rows) ⟨by omega, by omega⟩
  have g1 := layV_grow ⟨[], false, rows0 rows + 1, goal⟩ (kindS 1)
  have f1 : Fits ⟨[], false, rows0 rows + 1, goal⟩ (kindS 1) := fits_of s1 (by decide) (Nat.zero_le _) (Nat.zero_le _)
  have l1 := g1.len
  have z1 := g1.size
  have t1 := s1.text
  have e0 : (logT []).length = 0 := rfl
  have f2 : Fits (layV ⟨[], false, rows0 rows + 1, goal⟩ (kindS 1)).2 (countS (itoaS (rows0 rows))) := fits_of s2 (by decide) (by dsimp only [List.length_nil] at l1; omega) (by dsimp only at z1; omega)
  have hl1 := fun {S₀ S : St} (wb : Nat) (h : Log S₀ S wb ⟨[], false, rows0 rows + 1, goal⟩) => lay_ok (G := G) hG hA h f1 (xs := [.int .i64 1, .str ByteArray.empty, .nils, .nils, .str ByteArray.empty, .nils, .nils, .int .i64 0, .str ByteArray.empty, .str ByteArray.empty]) ⟨rfl, rfl, rfl, rfl, rfl, rfl, rfl, rfl, rfl, rfl, trivial⟩
  have hl2 := fun {S₀ S : St} (wb : Nat) (h : Log S₀ S wb (layV ⟨[], false, rows0 rows + 1, goal⟩ (kindS 1)).2) => lay_ok (G := G) hG hA h f2 (xs := [.int .i64 2, .str (itoaS (rows0 rows)), .nils, .nils, .str ByteArray.empty, .nils, .nils, .int .i64 0, .str ByteArray.empty, .str ByteArray.empty]) ⟨rfl, rfl, rfl, rfl, rfl, rfl, rfl, rfl, rfl, rfl, trivial⟩
  have hit := fun S => itoa_ok (G := G) hG.tab (rows0 rows) (by omega) (by omega) S
  have w1 : IntKind.i64.wrap (rows0 rows + 1) = rows0 rows + 1 := wrap_i64 (by omega) (by omega)
  unfold newV
  generalize (layV (layV ⟨[], false, rows0 rows + 1, goal⟩ (kindS 1)).2 (countS (itoaS (rows0 rows)))).2 = w2 at *
  generalize (layV (layV ⟨[], false, rows0 rows + 1, goal⟩ (kindS 1)).2 (countS (itoaS (rows0 rows)))).1 = e2 at *
  generalize (layV ⟨[], false, rows0 rows + 1, goal⟩ (kindS 1)).1 = e1 at *
  generalize (layV ⟨[], false, rows0 rows + 1, goal⟩ (kindS 1)).2 = w1' at *
  clear f1 f2 g1 l1 z1 t1 s1 s2
  refine triple_of_awp (hT G) hm Tryz.func24 rfl (by decide +kernel) rfl (by decide +kernel) (by show 2 ≤ _; decide +kernel) rfl ?_
  refine awp_seq2 fun K hK hQ => ?_
  conv => whnf
  refine hK _ _ ?_
  clear hK hQ K
  refine awp_seq2 fun K hK hQ => ?_
  conv => whnf
  refine hK _ _ ?_
  clear hK hQ K
  refine awp_seq2 fun K hK hQ => ?_
  change awp _ _ _ ((0, .int .i64 (rows0 rows)) :: _) _ _
  generalize rows0 rows = r at *
  conv => whnf
  rw [w1]
  intro wb hb
  conv => whnf
  refine hK _ _ ?_
  clear hK hQ K
  have hB : Log S (S.upd wb (.obj 106 (logC ⟨[], false, r + 1, goal⟩ 0 0))) wb ⟨[], false, r + 1, goal⟩ :=
    ⟨0, 0, St.le_upd' (St.le_refl _) hb _, hb, St.upd_same _ _ _, fun hn => absurd hn (Nat.lt_irrefl 0), fun hn => absurd hn (Nat.lt_irrefl 0)⟩
  have hw := St.leW_upd (cs' := logC ⟨[], false, r + 1, goal⟩ 0 0) (St.upd_same S wb (.obj 106 [.nils, .nils, .bool false, .int .i64 (r + 1), .bool goal])) ⟨rfl, rfl, rfl, rfl, rfl, trivial⟩
  rw [St.upd_upd] at hw
  refine awp_seq2 fun K hK hQ => ?_
  conv => whnf
  refine (Triple.weakS (hl1 _ hB) hw).mono ?_
  rintro o T ⟨rfl, hB1⟩
  conv => whnf
  refine hK _ _ ?_
  clear hK hQ K hB hw
  refine awp_seq2 fun K hK hQ => ?_
  refine ⟨[4], (.free 0 (.free 1 (.free 2 (.free 3 (.free 4 (.free 5 (.one 6 .done .none))))))), _, by decide +kernel, ?_, fun _ _ h => ⟨_, .inl rfl, h⟩⟩
  conv => whnf
  refine ⟨.str (itoaS r), (hit _).mono ?_, ?_⟩
  · rintro o S' ⟨rfl, rfl⟩; exact ⟨rfl, rfl⟩
  conv => whnf
  refine (hl2 _ hB1).mono ?_
  rintro o T2 ⟨rfl, hB2⟩
  conv => whnf
  refine hK _ _ ?_
  clear hK hQ K hB1
  conv => whnf
  exact ⟨_, _, ⟨wb, rfl, hB2⟩, St.le_refl _, AV.leS_refl _ _ _⟩
theorem layV_good {st : List StepV} {n : Int} {g : Bool} {v : StepV} (h : (printP v).2 = 0) : layV ⟨st, false, n, g⟩ v = (0, ⟨st ++ [v], false, n, g⟩) := by
  unfold layV
  rw [if_neg (by simp), if_pos h]
theorem addsV_good {st : List StepV} {n : Int} {g : Bool} {v : StepV} (h : (printP v).2 = 0) : addsV ⟨st, false, n, g⟩ v true = ((n, 0), ⟨st ++ [v], false, n + 1, g⟩) := by
  unfold addsV
  rw [layV_good h]
  rfl
def kw1 : StepV := rupS [(⟨#[49]⟩, 1)] ⟨#[49]⟩ (decL [])
def kw2 : StepV := polS [(1, ⟨#[51]⟩, 0), (1, ⟨#[50]⟩, 0), (3, ByteArray.empty, 0)]
def kw3 : StepV := delS (decL [3])
theorem kw_head : (printP (kindS 1)).2 = 0 := by decide +kernel
theorem kw_count : (printP (countS (itoaS 2))).2 = 0 := by decide +kernel
theorem kw_1 : (printP kw1).2 = 0 := by decide +kernel
theorem kw_2 : (printP kw2).2 = 0 := by decide +kernel
theorem kw_3 : (printP kw3).2 = 0 := by decide +kernel
theorem kw_8 : (printP (kindS 8)).2 = 0 := by decide +kernel
theorem kw_9 : (printP (conclS 2 4 0 0)).2 = 0 := by decide +kernel
theorem kw_10 : (printP (kindS 10)).2 = 0 := by decide +kernel
def kwL0 : List StepV := [kindS 1, countS (itoaS 2)]
def kwL : List StepV := [kindS 1, countS (itoaS 2), kw1, kw2, kw3, kindS 8, conclS 2 4 0 0, kindS 10]
theorem kw_new : newV 2 false = ⟨kwL0, false, 3, false⟩ := by
  unfold newV
  rw [show rows0 2 + 1 = 3 from rfl, layV_good kw_head]
  dsimp only
  rw [show rows0 2 = 2 from rfl, layV_good kw_count]
  rfl
theorem kw_end : endV ⟨kwL0 ++ [kw1] ++ [kw2] ++ [kw3], false, 5, false⟩ 2 4 0 0 = (0, ⟨kwL, true, 5, false⟩) := by
  unfold endV
  rw [if_neg (by simp), if_pos (by decide), layV_good kw_8]
  dsimp only
  rw [layV_good kw_9]
  dsimp only
  rw [layV_good kw_10]
  rfl
theorem num16_ok (e : Int) (S : St) : Triple P (C G) 33 [.int .i64 e] S fun o S' => o = .ret (.int .i64 e) ∧ S' = S := by
  refine triple_of_awp (hT G) hm Tryz.func33 rfl (by decide +kernel) rfl (by decide +kernel) (by show 1 ≤ _; decide +kernel) rfl ?_
  conv => whnf
  exact ⟨_, _, ⟨rfl, rfl⟩, St.le_refl _, AV.leS_refl _ _ _⟩
end Go.Proofs.YtcpdgnkhkdddhaaGreatDoor.Aw

set_option maxRecDepth 100000
set_option linter.unusedVariables false
set_option linter.unusedSimpArgs false
namespace Go.Proofs.YtcpdgnkhkdddhaaGreatDoor.Aw
open Go Go.RowKit

structure PlayOk (w w' : LogV) (n e : Int) (adds fin : Bool) (z : Nat) : Prop where
  code : e = 0 ∨ e = 160 ∨ e = 161
  over1 : w.over = true → e = 161
  n0 : e ≠ 0 → n = 0
  add : e = 0 → adds = true → n = w.next ∧ w'.next = w.next + 1
  noadd : e ≠ 0 ∨ adds = false → w'.next = w.next
  over' : w'.over = (w.over || (fin && e == 0))
  laid : Laid w → Laid w'
  goal : w'.goal = w.goal
  len : w'.st.length ≤ w.st.length + 3
  size : (logT w'.st).length ≤ (logT w.st).length + 3 * (z + 1)
  texts : z ≤ 8999999 → (∀ v ∈ w.st, (textT v).size ≤ 8999999) → ∀ v ∈ w'.st, (textT v).size ≤ 8999999
theorem layV_texts {w : LogV} {v : StepV} (hv : (textT v).size ≤ 8999999) (h : ∀ x ∈ w.st, (textT x).size ≤ 8999999) : ∀ x ∈ (layV w v).2.st, (textT x).size ≤ 8999999 := by
  unfold layV
  split
  · exact h
  split
  · intro x hx
    rcases List.mem_append.1 hx with hx | hx
    · exact h x hx
    · rw [List.mem_singleton.1 hx]; exact hv
  · exact h
theorem layV_over {w : LogV} (v : StepV) (h : w.over = true) : (layV w v).1 = 161 := by unfold layV; rw [if_pos h]
theorem playOk_lay (w : LogV) {v : StepV} {z : Nat} (hs : SmallS v z) : PlayOk w (layV w v).2 0 (layV w v).1 false false z := by
  have g := layV_grow w v
  refine ⟨layV_code w v, layV_over v, fun _ => rfl, fun _ h => (by cases h), fun _ => g.next, ?_, fun h => h.lay v, g.goal, ?_, ?_, fun hz h => layV_texts (Nat.le_trans hs.text hz) h⟩
  · rw [g.over]; simp
  · have := g.len; omega
  · have := g.size; have := hs.text; omega
theorem playOk_adds (w : LogV) {v : StepV} {z : Nat} (hs : SmallS v z) (row : Bool) : PlayOk w (addsV w v row).2 (addsV w v row).1.1 (addsV w v row).1.2 row false z := by
  have h := playOk_lay w hs
  have hla : Laid w → Laid (addsV w v row).2 := fun h => h.adds v row
  rcases hr' : layV w v with ⟨r1, r2⟩
  rw [hr'] at h
  obtain ⟨c1, c2, c3, c4, c5, c6, c7, c8, c9, c10, c11⟩ := h
  dsimp only at c1 c2 c5 c6 c7 c8 c9 c10 c11
  have hd : addsV w v row = if r1 ≠ 0 then ((0, r1), r2) else if row then ((r2.next, 0), { r2 with next := r2.next + 1 }) else ((0, 0), r2) := by unfold addsV; rw [hr']
  have hn := c5 (.inr rfl)
  by_cases he : r1 = 0
  · subst he
    rw [if_neg (by simp)] at hd
    cases row with
    | true =>
      rw [if_pos rfl] at hd
      rw [hd] at hla ⊢
      exact ⟨.inl rfl, fun ho => absurd (c2 ho) (by decide), fun h => absurd rfl h, fun _ _ => ⟨hn, by dsimp only; rw [hn]⟩, fun h => (by rcases h with h | h; exact absurd rfl h; cases h), by dsimp only; rw [c6]; first | done | simp, hla, c8, c9, c10, c11⟩
    | false =>
      rw [if_neg (by simp)] at hd
      rw [hd] at hla ⊢
      exact ⟨.inl rfl, fun ho => absurd (c2 ho) (by decide), fun _ => rfl, fun _ h => (by cases h), fun _ => hn, by dsimp only; rw [c6]; first | done | simp, hla, c8, c9, c10, c11⟩
  · rw [if_pos he] at hd
    rw [hd] at hla ⊢
    exact ⟨c1, c2, fun _ => rfl, fun h => absurd h he, fun _ => hn, by dsimp only; rw [c6]; first | done | simp, hla, c8, c9, c10, c11⟩
theorem playOk_end (w : LogV) (k id low high : Int) (hi : okI id) (hlo : okI low) (hhi : okI high) {z : Nat} (hz : 2000 ≤ z) : PlayOk w (endV w k id low high).2 0 (endV w k id low high).1 false true z := by
  unfold endV
  by_cases ho : w.over = true
  · rw [if_pos ho]
    exact ⟨.inr (.inr rfl), fun _ => rfl, fun _ => rfl, fun h => absurd (show (161 : Int) = 0 from h) (by decide), fun _ => rfl, by dsimp only; simp, fun h => h, rfl, by dsimp only; omega, by dsimp only; omega, fun _ h => h⟩
  rw [if_neg ho]
  have hof : w.over = false := by simpa using ho
  split
  · have t8 := (small_kind 8).text
    have t9 := (small_concl k id low high hi hlo hhi).text
    have t10 := (small_kind 10).text
    have g := ((layV_grow w (kindS 8)).trans (layV_grow _ (conclS k id low high))).trans (layV_grow _ (kindS 10))
    refine ⟨.inl rfl, fun h => absurd h ho, fun _ => rfl, fun _ h => (by cases h), fun _ => g.next, by dsimp only; rw [hof]; rfl, fun h => ((h.lay _).lay _).lay _, g.goal, ?_, ?_, fun hz h => layV_texts (by omega) (layV_texts (by omega) (layV_texts (by omega) h))⟩
    · have := g.len; dsimp only; omega
    · have := g.size; dsimp only; omega
  · exact ⟨.inr (.inl rfl), fun h => absurd h ho, fun _ => rfl, fun h => absurd (show (160 : Int) = 0 from h) (by decide), fun _ => rfl, by dsimp only; rw [hof]; rfl, fun h => h, rfl, by dsimp only; omega, by dsimp only; omega, fun _ h => h⟩
theorem newV_facts (rows : Int) (goal : Bool) (hr : rows ≤ 1152921504606846976) : (newV rows goal).over = false ∧ (newV rows goal).next = rows0 rows + 1 ∧ (newV rows goal).goal = goal ∧ Laid (newV rows goal) ∧ (newV rows goal).st.length ≤ 3 ∧ (logT (newV rows goal).st).length ≤ 5000 ∧ ∀ v ∈ (newV rows goal).st, (textT v).size ≤ 8999999 := by
  have h0 : 0 ≤ rows0 rows ∧ rows0 rows ≤ 1152921504606846976 := by unfold rows0; split <;> omega
  have s1 := small_kind 1
  have s2 := small_count (rows0 rows) ⟨by omega, by omega⟩
  have p1 := playOk_lay ⟨[], false, rows0 rows + 1, goal⟩ s1
  have p2 := playOk_lay (layV ⟨[], false, rows0 rows + 1, goal⟩ (kindS 1)).2 s2
  have e0 : (logT []).length = 0 := rfl
  unfold newV
  refine ⟨?_, (p2.noadd (.inr rfl)).trans (p1.noadd (.inr rfl)), p2.goal.trans p1.goal, p2.laid (p1.laid fun v hv => (by cases hv)), ?_, ?_, p2.texts (by decide) (p1.texts (by decide) fun v hv => (by cases hv))⟩
  · have g1 := (layV_grow ⟨[], false, rows0 rows + 1, goal⟩ (kindS 1)).over
    have g2 := (layV_grow (layV ⟨[], false, rows0 rows + 1, goal⟩ (kindS 1)).2 (countS (itoaS (rows0 rows)))).over
    rw [g2, g1]
  · have g1 := (layV_grow ⟨[], false, rows0 rows + 1, goal⟩ (kindS 1)).len
    have g2 := (layV_grow (layV ⟨[], false, rows0 rows + 1, goal⟩ (kindS 1)).2 (countS (itoaS (rows0 rows)))).len
    dsimp only [List.length_nil] at g1
    omega
  · have g1 := p1.size
    have g2 := p2.size
    dsimp only at g1
    omega
theorem logS_size (w : LogV) : (logS w).size = (logT w.st).length := by simp [logS, ByteArray.size]
end Go.Proofs.YtcpdgnkhkdddhaaGreatDoor.Aw

/-
  Hallmarkkept's Book with lists of strings alone: done, Texts, Hold.
-/
import Derived.Test.YtikkoaoibomofaaGreatDoorAwB7
set_option maxRecDepth 100000
set_option linter.unusedVariables false
set_option linter.unusedSimpArgs false
namespace Go.Proofs.YtikkoaoibomofaaGreatDoor.Aw
open Go Go.RowKit
variable {G : Nat → Option (List AV)}

set_option maxHeartbeats 2000000 in
theorem done_ok (hG : G10 G) {S₀ : St} {bk : Nat} {nw : Bool} {turn : Int} {k : KL} {W : List WE} {O : List OE} {rest : List (Nat × Own)} {M : Nat} {S : St} (h : TxtS S₀ bk nw turn 1 k W O rest M S) (hM : M ≤ 1000000000) (hO : O.length + 2 * W.length ≤ 1000000) :
    Triple P (C G) 11 [.ref bk 0] S fun o S' => o = .ret (.tu []) ∧ ∃ k' W' O' rest', TxtS S₀ bk nw (IntKind.i64.wrap (turn + 1)) 0 k' W' O' rest' M S' ∧ O'.length + 2 * W'.length ≤ O.length + 2 * W.length := by
  refine triple_of_awp (hT G) hm Tryz.func11 rfl (by decide +kernel) rfl (by decide +kernel) (by show 1 ≤ _; decide +kernel) rfl ?_
  have hb := h.st.book
  have w0 : IntKind.i64.wrap (1 - 1) = 0 := by decide
  refine awp_seq2 fun K hK hQ => ?_
  conv => whnf
  refine ⟨_, _, hb, ?_⟩
  conv => whnf
  refine ⟨_, _, hb, ?_⟩
  rw [forceL_eq]
  conv => whnf
  refine hK _ _ ?_
  clear hK hQ K
  have s1 := h.st.store (setRange (BookA.txt nw turn 1 k.kind).cells (0 + 3) [AV.int .i64 (IntKind.i64.wrap (1 - 1))])
  have t1 : TxtS S₀ bk nw turn (IntKind.i64.wrap (1 - 1)) k W O rest M _ := ⟨s1, h.data, h.sees, h.todo, h.nd, h.most⟩
  refine awp_seq2 fun K hK hQ => ?_
  conv => whnf
  refine ⟨_, _, s1.book, ?_⟩
  conv => whnf
  refine hK _ _ ?_
  clear hK hQ K
  refine awp_seq2 fun K hK hQ => ?_
  conv => whnf
  refine (marks_ok hG t1 hM (by omega)).mono ?_
  rintro o S1 ⟨rfl, k1, W1, O1, F1, rest1, hm1⟩
  have hc1 := hm1.count
  have hl1 := hm1.len
  conv => whnf
  refine hK _ _ ?_
  clear hK hQ K
  refine awp_seq2 fun K hK hQ => ?_
  conv => whnf
  refine (grows_ok hG hm1 h.nd hM (by omega) (fun w hw => ⟨(h.todo w (hm1.held w hw).1).2.1, (h.todo w (hm1.held w hw).1).2.2.1⟩)).mono ?_
  rintro o S2 ⟨rfl, k2, O2, rest2, t2, hl2⟩
  conv => whnf
  refine hK _ _ ?_
  clear hK hQ K
  conv => whnf
  refine ⟨_, _, t2.st.book, ?_⟩
  conv => whnf
  refine ⟨_, _, t2.st.book, ?_⟩
  rw [forceL_eq]
  conv => whnf
  have s3 := t2.st.store (setRange (BookA.txt nw turn (IntKind.i64.wrap (1 - 1)) k2.kind).cells (0 + 2) [AV.int .i64 (IntKind.i64.wrap (turn + 1))])
  have t3 : TxtS S₀ bk nw (IntKind.i64.wrap (turn + 1)) (IntKind.i64.wrap (1 - 1)) k2 W1 O2 rest2 M _ := ⟨s3, t2.data, t2.sees, t2.todo, t2.nd, t2.most⟩
  rw [w0] at t3
  exact ⟨_, _, ⟨rfl, k2, W1, O2, rest2, t3, by omega⟩, St.le_refl _, AV.leS_refl _ _ _⟩
set_option maxHeartbeats 2000000 in
theorem Hold_ok {S₀ : St} {bk : Nat} {nw : Bool} {turn deep : Int} {k : KL} {W : List WE} {O : List OE} {rest : List (Nat × Own)} {M : Nat} {S : St} (h : TxtS S₀ bk nw turn deep k W O rest M S) (hM : M ≤ 1000000000) (hO : O.length + 2 * W.length ≤ 1000000) :
    Triple P (C G) 7 [.ref bk 0] S fun o S' => o = .ret (.bool true) ∧ S' = S := by
  have HH := h.st.book
  refine triple_of_awp (hT G) hm Tryz.func7 rfl (by decide +kernel) rfl (by decide +kernel) (by show 1 ≤ _; decide +kernel) rfl ?_
  refine awp_seq2 fun K hK hQ => ?_
  conv => whnf
  refine hK _ _ ?_
  clear hK hQ K
  refine awp_seq2 fun K hK hQ => ?_
  conv => whnf
  refine ⟨_, _, HH, ?_⟩
  conv => whnf
  refine hK _ _ ?_
  clear hK hQ K
  refine awp_seq2 fun K hK hQ => ?_
  conv => whnf
  refine (hold_ints0 bk (BookA.txt nw turn deep k.kind) S (by exact HH)).mono ?_
  rintro o S' ⟨rfl, hS'⟩
  subst S'
  conv => whnf
  refine hK _ _ ?_
  clear hK hQ K
  refine awp_seq2 fun K hK hQ => ?_
  conv => whnf
  refine (holdTexts_ok S₀ bk (BookA.txt nw turn deep .zero) k rest S h.st W O [] h.data (fun w hw => ⟨h.st.get (h.todo w hw).1, by have := (h.todo w hw).2.2.1; omega⟩) (fun o ho => ⟨?_, by have := h.most o ho; omega⟩) (by omega)).mono ?_
  · obtain ⟨c, c1, junk, rfl⟩ := h.sees o ho
    exact ⟨junk, h.st.get c1⟩
  rintro o S' ⟨rfl, hS'⟩
  subst S'
  conv => whnf
  refine hK _ _ ?_
  clear hK hQ K
  refine awp_seq2 fun K hK hQ => ?_
  conv => whnf
  refine (hold_terms0 bk (BookA.txt nw turn deep k.kind) S (by exact HH)).mono ?_
  rintro o S' ⟨rfl, hS'⟩
  subst S'
  conv => whnf
  refine hK _ _ ?_
  clear hK hQ K
  refine awp_seq2 fun K hK hQ => ?_
  conv => whnf
  refine (hold_vars0 bk (BookA.txt nw turn deep k.kind) S (by exact HH)).mono ?_
  rintro o S' ⟨rfl, hS'⟩
  subst S'
  conv => whnf
  refine hK _ _ ?_
  clear hK hQ K
  refine awp_seq2 fun K hK hQ => ?_
  conv => whnf
  refine (hold_pieces0 bk (BookA.txt nw turn deep k.kind) S (by exact HH)).mono ?_
  rintro o S' ⟨rfl, hS'⟩
  subst S'
  conv => whnf
  refine hK _ _ ?_
  clear hK hQ K
  refine awp_seq2 fun K hK hQ => ?_
  conv => whnf
  refine (hold_ops0 bk (BookA.txt nw turn deep k.kind) S (by exact HH)).mono ?_
  rintro o S' ⟨rfl, hS'⟩
  subst S'
  conv => whnf
  refine hK _ _ ?_
  clear hK hQ K
  refine awp_seq2 fun K hK hQ => ?_
  conv => whnf
  refine (hold_cuts0 bk (BookA.txt nw turn deep k.kind) S (by exact HH)).mono ?_
  rintro o S' ⟨rfl, hS'⟩
  subst S'
  conv => whnf
  refine hK _ _ ?_
  clear hK hQ K
  refine awp_seq2 fun K hK hQ => ?_
  conv => whnf
  refine (hold_means0 bk (BookA.txt nw turn deep k.kind) S (by exact HH)).mono ?_
  rintro o S' ⟨rfl, hS'⟩
  subst S'
  conv => whnf
  refine hK _ _ ?_
  clear hK hQ K
  refine awp_seq2 fun K hK hQ => ?_
  conv => whnf
  refine (hold_lists0 bk (BookA.txt nw turn deep k.kind) S (by exact HH)).mono ?_
  rintro o S' ⟨rfl, hS'⟩
  subst S'
  conv => whnf
  refine hK _ _ ?_
  clear hK hQ K
  refine awp_seq2 fun K hK hQ => ?_
  conv => whnf
  refine (hold_cons0 bk (BookA.txt nw turn deep k.kind) S (by exact HH)).mono ?_
  rintro o S' ⟨rfl, hS'⟩
  subst S'
  conv => whnf
  refine hK _ _ ?_
  clear hK hQ K
  refine awp_seq2 fun K hK hQ => ?_
  conv => whnf
  refine (hold_rows0 bk (BookA.txt nw turn deep k.kind) S (by exact HH)).mono ?_
  rintro o S' ⟨rfl, hS'⟩
  subst S'
  conv => whnf
  refine hK _ _ ?_
  clear hK hQ K
  refine awp_seq2 fun K hK hQ => ?_
  conv => whnf
  refine (hold_steps0 bk (BookA.txt nw turn deep k.kind) S (by exact HH)).mono ?_
  rintro o S' ⟨rfl, hS'⟩
  subst S'
  conv => whnf
  refine hK _ _ ?_
  clear hK hQ K
  refine awp_seq2 fun K hK hQ => ?_
  conv => whnf
  refine (hold_halls0 bk (BookA.txt nw turn deep k.kind) S (by exact HH)).mono ?_
  rintro o S' ⟨rfl, hS'⟩
  subst S'
  conv => whnf
  refine hK _ _ ?_
  clear hK hQ K
  refine awp_seq2 fun K hK hQ => ?_
  conv => whnf
  refine (hold_causes0 bk (BookA.txt nw turn deep k.kind) S (by exact HH)).mono ?_
  rintro o S' ⟨rfl, hS'⟩
  subst S'
  conv => whnf
  refine hK _ _ ?_
  clear hK hQ K
  refine awp_seq2 fun K hK hQ => ?_
  conv => whnf
  refine (hold_acts0 bk (BookA.txt nw turn deep k.kind) S (by exact HH)).mono ?_
  rintro o S' ⟨rfl, hS'⟩
  subst S'
  conv => whnf
  refine hK _ _ ?_
  clear hK hQ K
  conv => whnf
  exact ⟨_, _, ⟨rfl, rfl⟩, St.le_refl _, AV.leS_refl _ _ _⟩
end Go.Proofs.YtikkoaoibomofaaGreatDoor.Aw

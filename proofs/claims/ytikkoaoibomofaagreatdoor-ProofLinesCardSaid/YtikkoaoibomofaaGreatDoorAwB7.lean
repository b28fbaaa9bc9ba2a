/-
  Hallmarkkept's Book with lists of strings alone: due, marks, grows, done, Texts, Hold.
-/
import Derived.Test.YtikkoaoibomofaaGreatDoorAwB6
import Derived.Test.YtikkoaoibomofaaGreatDoorAwB8
set_option maxRecDepth 100000
set_option linter.unusedVariables false
set_option linter.unusedSimpArgs false
namespace Go.Proofs.YtikkoaoibomofaaGreatDoor.Aw
open Go Go.RowKit
variable {G : Nat → Option (List AV)}

/-- A long row of statements is walked one by one: the kernel's check of a walk over a long row grows without bound. -/
theorem awp_seq2 {P : Program} {C : Cx} {a b : Code} {env : Env} {S : St} {Q : AExit → Env → St → Prop} (h : ∀ K : AExit → Env → St → Prop, (∀ env' S', awp P C b env' S' Q → K .normal env' S') → (∀ e env' S', e ≠ .normal → Q e env' S' → K e env' S') → awp P C a env S K) : awp P C (.seq a b) env S Q := by
  unfold awp
  exact h _ (fun _ _ h => h) (fun e _ _ he h => by cases e <;> first | exact absurd rfl he | exact h)
structure TxtS (S₀ : St) (bk : Nat) (nw : Bool) (turn deep : Int) (k : KL) (W : List WE) (O : List OE) (rest : List (Nat × Own)) (M : Nat) (S : St) : Prop where
  st : BkS S₀ strsT bk (BookA.txt nw turn deep k.kind).cells k rest S
  data : KData k W O []
  sees : SeesT O rest
  todo : ∀ w ∈ W, (w.it.b, w.it.own) ∈ rest ∧ w.it.Ok ∧ w.it.l.length ≤ M ∧ ∀ o ∈ O, o.b ≠ w.it.b
  nd : (W.map (·.it.b)).Nodup
  most : ∀ o ∈ O, o.l.length ≤ M + 30
theorem TxtS.sub {S₀ : St} {bk : Nat} {B : BookA} {W : List WE} {O : List OE} {rest₀ : List (Nat × Own)} {M j : Nat} {k : KL} {W' : List WE} {O' : List OE} {F' : List FE} {rest : List (Nat × Own)} {S : St} (h : MarkO S₀ bk B W O rest₀ M j k W' O' F' rest S) (hnd : (W.map (·.it.b)).Nodup) :
    (W'.map (·.it.b) ++ F'.map (·.it.b)).Nodup := by
  refine h.perm.nodup_iff.2 ?_
  rw [List.map_take]
  exact hnd.sublist (List.take_sublist _ _)
set_option maxHeartbeats 2000000 in
theorem marks_ok (hG : G10 G) {S₀ : St} {bk : Nat} {nw : Bool} {turn deep : Int} {k : KL} {W : List WE} {O : List OE} {rest : List (Nat × Own)} {M : Nat} {S : St} (h : TxtS S₀ bk nw turn deep k W O rest M S) (hM : M ≤ 1000000000) (hO : O.length + W.length ≤ 1000000000) :
    Triple P (C G) 28 [.ref bk 0] S fun o S' => o = .ret (.tu []) ∧ ∃ k' W' O' F' rest', MarkO S₀ bk (BookA.txt nw turn deep .zero) W O rest M W.length k' W' O' F' rest' S' := by
  have HH := h.st.book
  refine triple_of_awp (hT G) hm Tryz.func28 rfl (by decide +kernel) rfl (by decide +kernel) (by show 1 ≤ _; decide +kernel) rfl ?_
  refine awp_seq2 fun K hK hQ => ?_
  conv => whnf
  refine (mark_ints0 bk (BookA.txt nw turn deep k.kind) S (by exact HH)).mono ?_
  rintro o S' ⟨rfl, hS'⟩
  subst S'
  conv => whnf
  refine hK _ _ ?_
  clear hK hQ K
  refine awp_seq2 fun K hK hQ => ?_
  conv => whnf
  refine (markTexts_ok hG S₀ bk (BookA.txt nw turn deep .zero) rfl k rest S W O M hM hO h.nd h.st h.data h.sees h.todo h.most).mono ?_
  rintro o S1 ⟨rfl, k', W', O', F', rest', hm⟩
  conv => whnf
  refine hK _ _ ?_
  clear hK hQ K
  have HH := hm.st.book
  refine awp_seq2 fun K hK hQ => ?_
  conv => whnf
  refine (mark_terms0 bk (BookA.txt nw turn deep k'.kind) S1 (by exact HH)).mono ?_
  rintro o S' ⟨rfl, hS'⟩
  subst S'
  conv => whnf
  refine hK _ _ ?_
  clear hK hQ K
  refine awp_seq2 fun K hK hQ => ?_
  conv => whnf
  refine (mark_vars0 bk (BookA.txt nw turn deep k'.kind) S1 (by exact HH)).mono ?_
  rintro o S' ⟨rfl, hS'⟩
  subst S'
  conv => whnf
  refine hK _ _ ?_
  clear hK hQ K
  refine awp_seq2 fun K hK hQ => ?_
  conv => whnf
  refine (mark_pieces0 bk (BookA.txt nw turn deep k'.kind) S1 (by exact HH)).mono ?_
  rintro o S' ⟨rfl, hS'⟩
  subst S'
  conv => whnf
  refine hK _ _ ?_
  clear hK hQ K
  refine awp_seq2 fun K hK hQ => ?_
  conv => whnf
  refine (mark_ops0 bk (BookA.txt nw turn deep k'.kind) S1 (by exact HH)).mono ?_
  rintro o S' ⟨rfl, hS'⟩
  subst S'
  conv => whnf
  refine hK _ _ ?_
  clear hK hQ K
  refine awp_seq2 fun K hK hQ => ?_
  conv => whnf
  refine (mark_cuts0 bk (BookA.txt nw turn deep k'.kind) S1 (by exact HH)).mono ?_
  rintro o S' ⟨rfl, hS'⟩
  subst S'
  conv => whnf
  refine hK _ _ ?_
  clear hK hQ K
  refine awp_seq2 fun K hK hQ => ?_
  conv => whnf
  refine (mark_means0 bk (BookA.txt nw turn deep k'.kind) S1 (by exact HH)).mono ?_
  rintro o S' ⟨rfl, hS'⟩
  subst S'
  conv => whnf
  refine hK _ _ ?_
  clear hK hQ K
  refine awp_seq2 fun K hK hQ => ?_
  conv => whnf
  refine (mark_lists0 bk (BookA.txt nw turn deep k'.kind) S1 (by exact HH)).mono ?_
  rintro o S' ⟨rfl, hS'⟩
  subst S'
  conv => whnf
  refine hK _ _ ?_
  clear hK hQ K
  refine awp_seq2 fun K hK hQ => ?_
  conv => whnf
  refine (mark_cons0 bk (BookA.txt nw turn deep k'.kind) S1 (by exact HH)).mono ?_
  rintro o S' ⟨rfl, hS'⟩
  subst S'
  conv => whnf
  refine hK _ _ ?_
  clear hK hQ K
  refine awp_seq2 fun K hK hQ => ?_
  conv => whnf
  refine (mark_rows0 bk (BookA.txt nw turn deep k'.kind) S1 (by exact HH)).mono ?_
  rintro o S' ⟨rfl, hS'⟩
  subst S'
  conv => whnf
  refine hK _ _ ?_
  clear hK hQ K
  refine awp_seq2 fun K hK hQ => ?_
  conv => whnf
  refine (mark_steps0 bk (BookA.txt nw turn deep k'.kind) S1 (by exact HH)).mono ?_
  rintro o S' ⟨rfl, hS'⟩
  subst S'
  conv => whnf
  refine hK _ _ ?_
  clear hK hQ K
  refine awp_seq2 fun K hK hQ => ?_
  conv => whnf
  refine (mark_halls0 bk (BookA.txt nw turn deep k'.kind) S1 (by exact HH)).mono ?_
  rintro o S' ⟨rfl, hS'⟩
  subst S'
  conv => whnf
  refine hK _ _ ?_
  clear hK hQ K
  refine awp_seq2 fun K hK hQ => ?_
  conv => whnf
  refine (mark_causes0 bk (BookA.txt nw turn deep k'.kind) S1 (by exact HH)).mono ?_
  rintro o S' ⟨rfl, hS'⟩
  subst S'
  conv => whnf
  refine hK _ _ ?_
  clear hK hQ K
  conv => whnf
  refine (mark_acts0 bk (BookA.txt nw turn deep k'.kind) S1 (by exact HH)).mono ?_
  rintro o S' ⟨rfl, hS'⟩
  subst S'
  conv => whnf
  exact ⟨_, _, ⟨rfl, k', W', O', F', rest', hm⟩, St.le_refl _, AV.leS_refl _ _ _⟩
set_option maxHeartbeats 2000000 in
theorem grows_ok (hG : G10 G) {S₀ : St} {bk : Nat} {nw : Bool} {turn deep : Int} {k : KL} {W : List WE} {O : List OE} {W₀ : List WE} {O₀ : List OE} {rest₀ : List (Nat × Own)} {F : List FE} {rest : List (Nat × Own)} {M n : Nat} {S : St} (hmk : MarkO S₀ bk (BookA.txt nw turn deep .zero) W₀ O₀ rest₀ M n k W O F rest S)
    (hnd : (W₀.map (·.it.b)).Nodup) (hM : M ≤ 1000000000) (hO : O.length + F.length ≤ 1000000000) (hW : ∀ w ∈ W, w.it.Ok ∧ w.it.l.length ≤ M) :
    Triple P (C G) 29 [.ref bk 0] S fun o S' => o = .ret (.tu []) ∧ ∃ k' O' rest', TxtS S₀ bk nw turn deep k' W O' rest' M S' ∧ O'.length = O.length + F.length := by
  have HH := hmk.st.book
  have hsub := TxtS.sub hmk hnd
  have hF : (F.map (·.it.b)).Nodup := hsub.sublist (List.sublist_append_right _ _)
  have hdis : ∀ w ∈ W, ∀ f ∈ F, w.it.b ≠ f.it.b := fun w hw f hf => List.nodup_append.1 hsub |>.2.2 _ (List.mem_map.2 ⟨w, hw, rfl⟩) _ (List.mem_map.2 ⟨f, hf, rfl⟩)
  refine triple_of_awp (hT G) hm Tryz.func29 rfl (by decide +kernel) rfl (by decide +kernel) (by show 1 ≤ _; decide +kernel) rfl ?_
  refine awp_seq2 fun K hK hQ => ?_
  conv => whnf
  refine (grow_ints0 bk (BookA.txt nw turn deep k.kind) S (by exact HH)).mono ?_
  rintro o S' ⟨rfl, hS'⟩
  subst S'
  conv => whnf
  refine hK _ _ ?_
  clear hK hQ K
  refine awp_seq2 fun K hK hQ => ?_
  conv => whnf
  refine (growTexts_ok hG S₀ bk (BookA.txt nw turn deep .zero) k rest S W O F M hM hO hF ⟨hmk.st, hmk.data, Nat.zero_le _, hmk.sees, fun f hf => hmk.fresh f (by simpa using hf), fun c p h _ => h, rfl, hmk.most, fun _ _ _ _ h => h⟩).mono ?_
  rintro o S1 ⟨rfl, k', O', rest', q1, q2, q3, q4, q5, q6, q7⟩
  conv => whnf
  refine hK _ _ ?_
  clear hK hQ K
  have HH := q1.book
  refine awp_seq2 fun K hK hQ => ?_
  conv => whnf
  refine (grow_terms0 bk (BookA.txt nw turn deep k'.kind) S1 (by exact HH)).mono ?_
  rintro o S' ⟨rfl, hS'⟩
  subst S'
  conv => whnf
  refine hK _ _ ?_
  clear hK hQ K
  refine awp_seq2 fun K hK hQ => ?_
  conv => whnf
  refine (grow_vars0 bk (BookA.txt nw turn deep k'.kind) S1 (by exact HH)).mono ?_
  rintro o S' ⟨rfl, hS'⟩
  subst S'
  conv => whnf
  refine hK _ _ ?_
  clear hK hQ K
  refine awp_seq2 fun K hK hQ => ?_
  conv => whnf
  refine (grow_pieces0 bk (BookA.txt nw turn deep k'.kind) S1 (by exact HH)).mono ?_
  rintro o S' ⟨rfl, hS'⟩
  subst S'
  conv => whnf
  refine hK _ _ ?_
  clear hK hQ K
  refine awp_seq2 fun K hK hQ => ?_
  conv => whnf
  refine (grow_ops0 bk (BookA.txt nw turn deep k'.kind) S1 (by exact HH)).mono ?_
  rintro o S' ⟨rfl, hS'⟩
  subst S'
  conv => whnf
  refine hK _ _ ?_
  clear hK hQ K
  refine awp_seq2 fun K hK hQ => ?_
  conv => whnf
  refine (grow_cuts0 bk (BookA.txt nw turn deep k'.kind) S1 (by exact HH)).mono ?_
  rintro o S' ⟨rfl, hS'⟩
  subst S'
  conv => whnf
  refine hK _ _ ?_
  clear hK hQ K
  refine awp_seq2 fun K hK hQ => ?_
  conv => whnf
  refine (grow_means0 bk (BookA.txt nw turn deep k'.kind) S1 (by exact HH)).mono ?_
  rintro o S' ⟨rfl, hS'⟩
  subst S'
  conv => whnf
  refine hK _ _ ?_
  clear hK hQ K
  refine awp_seq2 fun K hK hQ => ?_
  conv => whnf
  refine (grow_lists0 bk (BookA.txt nw turn deep k'.kind) S1 (by exact HH)).mono ?_
  rintro o S' ⟨rfl, hS'⟩
  subst S'
  conv => whnf
  refine hK _ _ ?_
  clear hK hQ K
  refine awp_seq2 fun K hK hQ => ?_
  conv => whnf
  refine (grow_cons0 bk (BookA.txt nw turn deep k'.kind) S1 (by exact HH)).mono ?_
  rintro o S' ⟨rfl, hS'⟩
  subst S'
  conv => whnf
  refine hK _ _ ?_
  clear hK hQ K
  refine awp_seq2 fun K hK hQ => ?_
  conv => whnf
  refine (grow_rows0 bk (BookA.txt nw turn deep k'.kind) S1 (by exact HH)).mono ?_
  rintro o S' ⟨rfl, hS'⟩
  subst S'
  conv => whnf
  refine hK _ _ ?_
  clear hK hQ K
  refine awp_seq2 fun K hK hQ => ?_
  conv => whnf
  refine (grow_steps0 bk (BookA.txt nw turn deep k'.kind) S1 (by exact HH)).mono ?_
  rintro o S' ⟨rfl, hS'⟩
  subst S'
  conv => whnf
  refine hK _ _ ?_
  clear hK hQ K
  refine awp_seq2 fun K hK hQ => ?_
  conv => whnf
  refine (grow_halls0 bk (BookA.txt nw turn deep k'.kind) S1 (by exact HH)).mono ?_
  rintro o S' ⟨rfl, hS'⟩
  subst S'
  conv => whnf
  refine hK _ _ ?_
  clear hK hQ K
  refine awp_seq2 fun K hK hQ => ?_
  conv => whnf
  refine (grow_causes0 bk (BookA.txt nw turn deep k'.kind) S1 (by exact HH)).mono ?_
  rintro o S' ⟨rfl, hS'⟩
  subst S'
  conv => whnf
  refine hK _ _ ?_
  clear hK hQ K
  conv => whnf
  refine (grow_acts0 bk (BookA.txt nw turn deep k'.kind) S1 (by exact HH)).mono ?_
  rintro o S' ⟨rfl, hS'⟩
  subst S'
  conv => whnf
  refine ⟨_, _, ⟨rfl, k', O', rest', ⟨q1, q2, q3, fun w hw => ?_, hsub.sublist (List.sublist_append_left _ _), q6⟩, q5⟩, St.le_refl _, AV.leS_refl _ _ _⟩
  obtain ⟨z1, z2, z3⟩ := hmk.held w hw
  exact ⟨q4 _ _ z2 (hdis w hw), (hW w hw).1, (hW w hw).2, q7 _ _ z2 (hdis w hw) z3⟩
end Go.Proofs.YtikkoaoibomofaaGreatDoor.Aw

/-
  Contracts of hallmarkkept's Book in the abstract walk's words: its cells; the kinds of which no list is kept.
-/
import Derived.Test.YtikkoaoibomofaaGreatDoorAwP2
import Derived.Test.YtikkoaoibomofaaGreatDoorAwO
set_option maxRecDepth 100000
set_option linter.unusedVariables false
namespace Go.Proofs.YtikkoaoibomofaaGreatDoor.Aw
open Go Go.RowKit
variable {G : Nat → Option (List AV)}

structure KindA where
  out : AV
  told : AV
  waits : AV
  note : AV
  fresh : AV
  mark : AV
  due : AV
  from_ : AV
  seen : AV
def KindA.zero : KindA := ⟨.nils, .nils, .nils, .nils, .nils, .nils, .nils, .nils, .int .i64 0⟩
structure BookA where
  now : Bool
  bad : Bool
  turn : Int
  deep : Int
  ints : KindA
  texts : KindA
  terms : KindA
  vars : KindA
  pieces : KindA
  ops : KindA
  cuts : KindA
  means : KindA
  lists : KindA
  cons : KindA
  rows : KindA
  steps : KindA
  halls : KindA
  causes : KindA
  acts : KindA
def BookA.zero : BookA := ⟨false, false, 0, 0, .zero, .zero, .zero, .zero, .zero, .zero, .zero, .zero, .zero, .zero, .zero, .zero, .zero, .zero, .zero⟩
def BookA.cells (B : BookA) : List AV := [.bool B.now, .bool B.bad, .int .i64 B.turn, .int .i64 B.deep, B.ints.out, B.ints.told, B.ints.waits, B.ints.note, B.ints.fresh, B.ints.mark, B.ints.due, B.ints.from_, B.ints.seen, B.texts.out, B.texts.told, B.texts.waits, B.texts.note, B.texts.fresh, B.texts.mark, B.texts.due, B.texts.from_, B.texts.seen, B.terms.out, B.terms.told, B.terms.waits, B.terms.note, B.terms.fresh, B.terms.mark, B.terms.due, B.terms.from_, B.terms.seen, B.vars.out, B.vars.told, B.vars.waits, B.vars.note, B.vars.fresh, B.vars.mark, B.vars.due, B.vars.from_, B.vars.seen, B.pieces.out, B.pieces.told, B.pieces.waits, B.pieces.note, B.pieces.fresh, B.pieces.mark, B.pieces.due, B.pieces.from_, B.pieces.seen, B.ops.out, B.ops.told, B.ops.waits, B.ops.note, B.ops.fresh, B.ops.mark, B.ops.due, B.ops.from_, B.ops.seen, B.cuts.out, B.cuts.told, B.cuts.waits, B.cuts.note, B.cuts.fresh, B.cuts.mark, B.cuts.due, B.cuts.from_, B.cuts.seen, B.means.out, B.means.told, B.means.waits, B.means.note, B.means.fresh, B.means.mark, B.means.due, B.means.from_, B.means.seen, B.lists.out, B.lists.told, B.lists.waits, B.lists.note, B.lists.fresh, B.lists.mark, B.lists.due, B.lists.from_, B.lists.seen, B.cons.out, B.cons.told, B.cons.waits, B.cons.note, B.cons.fresh, B.cons.mark, B.cons.due, B.cons.from_, B.cons.seen, B.rows.out, B.rows.told, B.rows.waits, B.rows.note, B.rows.fresh, B.rows.mark, B.rows.due, B.rows.from_, B.rows.seen, B.steps.out, B.steps.told, B.steps.waits, B.steps.note, B.steps.fresh, B.steps.mark, B.steps.due, B.steps.from_, B.steps.seen, B.halls.out, B.halls.told, B.halls.waits, B.halls.note, B.halls.fresh, B.halls.mark, B.halls.due, B.halls.from_, B.halls.seen, B.causes.out, B.causes.told, B.causes.waits, B.causes.note, B.causes.fresh, B.causes.mark, B.causes.due, B.causes.from_, B.causes.seen, B.acts.out, B.acts.told, B.acts.waits, B.acts.note, B.acts.fresh, B.acts.mark, B.acts.due, B.acts.from_, B.acts.seen]
abbrev bookT : Nat := 40
theorem mark_ints0 (b : Nat) (B : BookA) (S : St) (hS : S b = some (.obj bookT { B with ints := .zero }.cells)) :
    Triple P (C G) 48 [.ref b 0] S fun o S' => o = .ret (.tu []) ∧ S' = S := by
  refine triple_of_awp (hT G) hm Tryz.func48 rfl (by decide +kernel) rfl (by decide +kernel) (by show 1 ≤ _; decide +kernel) rfl ?_
  conv => whnf
  refine ⟨_, _, hS, ?_⟩
  conv => whnf
  refine ⟨_, _, hS, ?_⟩
  conv => whnf
  refine ⟨_, _, hS, ?_⟩
  conv => whnf
  refine ⟨_, _, hS, ?_⟩
  conv => whnf
  exact ⟨_, S, ⟨rfl, rfl⟩, St.le_refl _, AV.leS_refl _ _ _⟩
theorem grow_ints0 (b : Nat) (B : BookA) (S : St) (hS : S b = some (.obj bookT { B with ints := .zero }.cells)) :
    Triple P (C G) 63 [.ref b 0] S fun o S' => o = .ret (.tu []) ∧ S' = S := by
  refine triple_of_awp (hT G) hm Tryz.func63 rfl (by decide +kernel) rfl (by decide +kernel) (by show 1 ≤ _; decide +kernel) rfl ?_
  conv => whnf
  refine ⟨⟨Unit, fun _ => [(0, .ref b 0), (2, .int .i64 0)], fun _ S' => S' = S, fun _ => 0⟩, ⟨(), ⟨rfl, rfl, trivial⟩, S, St.leW_refl _, rfl⟩, ?_⟩
  rintro ⟨⟩ S₁ rfl
  conv => whnf
  refine ⟨_, _, hS, ?_⟩
  conv => whnf
  refine ⟨_, _, hS, ?_⟩
  rw [forceL_eq]
  conv => whnf
  refine ⟨_, _, St.upd_same _ _ _, ?_⟩
  rw [forceL_eq]
  conv => whnf
  exact ⟨_, _, ⟨rfl, rfl⟩, by rw [St.upd_upd]; exact St.le_self hS, AV.leS_refl _ _ _⟩
theorem hold_ints0 (b : Nat) (B : BookA) (S : St) (hS : S b = some (.obj bookT { B with ints := .zero }.cells)) :
    Triple P (C G) 12 [.ref b 0] S fun o S' => o = .ret (.bool true) ∧ S' = S := by
  refine triple_of_awp (hT G) hm Tryz.func12 rfl (by decide +kernel) rfl (by decide +kernel) (by show 1 ≤ _; decide +kernel) rfl ?_
  conv => whnf
  refine ⟨⟨Unit, fun _ => [(0, .ref b 0), (3, .int .i64 0)], fun _ S' => S' = S, fun _ => 0⟩, ⟨(), ⟨rfl, rfl, trivial⟩, S, St.leW_refl _, rfl⟩, ?_⟩
  rintro ⟨⟩ S₁ rfl
  conv => whnf
  refine ⟨_, _, hS, ?_⟩
  conv => whnf
  refine ⟨⟨Unit, fun _ => [(0, .ref b 0), (4, .int .i64 0)], fun _ S' => S' = S₁, fun _ => 0⟩, ⟨(), ⟨rfl, rfl, trivial⟩, S₁, St.leW_refl _, rfl⟩, ?_⟩
  rintro ⟨⟩ S₂ rfl
  conv => whnf
  refine ⟨_, _, hS, ?_⟩
  conv => whnf
  exact ⟨_, _, ⟨rfl, rfl⟩, St.le_refl _, AV.leS_refl _ _ _⟩
theorem mark_texts0 (b : Nat) (B : BookA) (S : St) (hS : S b = some (.obj bookT { B with texts := .zero }.cells)) :
    Triple P (C G) 49 [.ref b 0] S fun o S' => o = .ret (.tu []) ∧ S' = S := by
  refine triple_of_awp (hT G) hm Tryz.func49 rfl (by decide +kernel) rfl (by decide +kernel) (by show 1 ≤ _; decide +kernel) rfl ?_
  conv => whnf
  refine ⟨_, _, hS, ?_⟩
  conv => whnf
  refine ⟨_, _, hS, ?_⟩
  conv => whnf
  refine ⟨_, _, hS, ?_⟩
  conv => whnf
  refine ⟨_, _, hS, ?_⟩
  conv => whnf
  exact ⟨_, S, ⟨rfl, rfl⟩, St.le_refl _, AV.leS_refl _ _ _⟩
theorem grow_texts0 (b : Nat) (B : BookA) (S : St) (hS : S b = some (.obj bookT { B with texts := .zero }.cells)) :
    Triple P (C G) 64 [.ref b 0] S fun o S' => o = .ret (.tu []) ∧ S' = S := by
  refine triple_of_awp (hT G) hm Tryz.func64 rfl (by decide +kernel) rfl (by decide +kernel) (by show 1 ≤ _; decide +kernel) rfl ?_
  conv => whnf
  refine ⟨⟨Unit, fun _ => [(0, .ref b 0), (2, .int .i64 0)], fun _ S' => S' = S, fun _ => 0⟩, ⟨(), ⟨rfl, rfl, trivial⟩, S, St.leW_refl _, rfl⟩, ?_⟩
  rintro ⟨⟩ S₁ rfl
  conv => whnf
  refine ⟨_, _, hS, ?_⟩
  conv => whnf
  refine ⟨_, _, hS, ?_⟩
  rw [forceL_eq]
  conv => whnf
  refine ⟨_, _, St.upd_same _ _ _, ?_⟩
  rw [forceL_eq]
  conv => whnf
  exact ⟨_, _, ⟨rfl, rfl⟩, by rw [St.upd_upd]; exact St.le_self hS, AV.leS_refl _ _ _⟩
theorem hold_texts0 (b : Nat) (B : BookA) (S : St) (hS : S b = some (.obj bookT { B with texts := .zero }.cells)) :
    Triple P (C G) 13 [.ref b 0] S fun o S' => o = .ret (.bool true) ∧ S' = S := by
  refine triple_of_awp (hT G) hm Tryz.func13 rfl (by decide +kernel) rfl (by decide +kernel) (by show 1 ≤ _; decide +kernel) rfl ?_
  conv => whnf
  refine ⟨⟨Unit, fun _ => [(0, .ref b 0), (3, .int .i64 0)], fun _ S' => S' = S, fun _ => 0⟩, ⟨(), ⟨rfl, rfl, trivial⟩, S, St.leW_refl _, rfl⟩, ?_⟩
  rintro ⟨⟩ S₁ rfl
  conv => whnf
  refine ⟨_, _, hS, ?_⟩
  conv => whnf
  refine ⟨⟨Unit, fun _ => [(0, .ref b 0), (4, .int .i64 0)], fun _ S' => S' = S₁, fun _ => 0⟩, ⟨(), ⟨rfl, rfl, trivial⟩, S₁, St.leW_refl _, rfl⟩, ?_⟩
  rintro ⟨⟩ S₂ rfl
  conv => whnf
  refine ⟨_, _, hS, ?_⟩
  conv => whnf
  exact ⟨_, _, ⟨rfl, rfl⟩, St.le_refl _, AV.leS_refl _ _ _⟩
theorem mark_terms0 (b : Nat) (B : BookA) (S : St) (hS : S b = some (.obj bookT { B with terms := .zero }.cells)) :
    Triple P (C G) 50 [.ref b 0] S fun o S' => o = .ret (.tu []) ∧ S' = S := by
  refine triple_of_awp (hT G) hm Tryz.func50 rfl (by decide +kernel) rfl (by decide +kernel) (by show 1 ≤ _; decide +kernel) rfl ?_
  conv => whnf
  refine ⟨_, _, hS, ?_⟩
  conv => whnf
  refine ⟨_, _, hS, ?_⟩
  conv => whnf
  refine ⟨_, _, hS, ?_⟩
  conv => whnf
  refine ⟨_, _, hS, ?_⟩
  conv => whnf
  exact ⟨_, S, ⟨rfl, rfl⟩, St.le_refl _, AV.leS_refl _ _ _⟩
theorem grow_terms0 (b : Nat) (B : BookA) (S : St) (hS : S b = some (.obj bookT { B with terms := .zero }.cells)) :
    Triple P (C G) 65 [.ref b 0] S fun o S' => o = .ret (.tu []) ∧ S' = S := by
  refine triple_of_awp (hT G) hm Tryz.func65 rfl (by decide +kernel) rfl (by decide +kernel) (by show 1 ≤ _; decide +kernel) rfl ?_
  conv => whnf
  refine ⟨⟨Unit, fun _ => [(0, .ref b 0), (2, .int .i64 0)], fun _ S' => S' = S, fun _ => 0⟩, ⟨(), ⟨rfl, rfl, trivial⟩, S, St.leW_refl _, rfl⟩, ?_⟩
  rintro ⟨⟩ S₁ rfl
  conv => whnf
  refine ⟨_, _, hS, ?_⟩
  conv => whnf
  refine ⟨_, _, hS, ?_⟩
  rw [forceL_eq]
  conv => whnf
  refine ⟨_, _, St.upd_same _ _ _, ?_⟩
  rw [forceL_eq]
  conv => whnf
  exact ⟨_, _, ⟨rfl, rfl⟩, by rw [St.upd_upd]; exact St.le_self hS, AV.leS_refl _ _ _⟩
theorem hold_terms0 (b : Nat) (B : BookA) (S : St) (hS : S b = some (.obj bookT { B with terms := .zero }.cells)) :
    Triple P (C G) 14 [.ref b 0] S fun o S' => o = .ret (.bool true) ∧ S' = S := by
  refine triple_of_awp (hT G) hm Tryz.func14 rfl (by decide +kernel) rfl (by decide +kernel) (by show 1 ≤ _; decide +kernel) rfl ?_
  conv => whnf
  refine ⟨⟨Unit, fun _ => [(0, .ref b 0), (3, .int .i64 0)], fun _ S' => S' = S, fun _ => 0⟩, ⟨(), ⟨rfl, rfl, trivial⟩, S, St.leW_refl _, rfl⟩, ?_⟩
  rintro ⟨⟩ S₁ rfl
  conv => whnf
  refine ⟨_, _, hS, ?_⟩
  conv => whnf
  refine ⟨⟨Unit, fun _ => [(0, .ref b 0), (4, .int .i64 0)], fun _ S' => S' = S₁, fun _ => 0⟩, ⟨(), ⟨rfl, rfl, trivial⟩, S₁, St.leW_refl _, rfl⟩, ?_⟩
  rintro ⟨⟩ S₂ rfl
  conv => whnf
  refine ⟨_, _, hS, ?_⟩
  conv => whnf
  exact ⟨_, _, ⟨rfl, rfl⟩, St.le_refl _, AV.leS_refl _ _ _⟩
theorem mark_vars0 (b : Nat) (B : BookA) (S : St) (hS : S b = some (.obj bookT { B with vars := .zero }.cells)) :
    Triple P (C G) 51 [.ref b 0] S fun o S' => o = .ret (.tu []) ∧ S' = S := by
  refine triple_of_awp (hT G) hm Tryz.func51 rfl (by decide +kernel) rfl (by decide +kernel) (by show 1 ≤ _; decide +kernel) rfl ?_
  conv => whnf
  refine ⟨_, _, hS, ?_⟩
  conv => whnf
  refine ⟨_, _, hS, ?_⟩
  conv => whnf
  refine ⟨_, _, hS, ?_⟩
  conv => whnf
  refine ⟨_, _, hS, ?_⟩
  conv => whnf
  exact ⟨_, S, ⟨rfl, rfl⟩, St.le_refl _, AV.leS_refl _ _ _⟩
theorem grow_vars0 (b : Nat) (B : BookA) (S : St) (hS : S b = some (.obj bookT { B with vars := .zero }.cells)) :
    Triple P (C G) 66 [.ref b 0] S fun o S' => o = .ret (.tu []) ∧ S' = S := by
  refine triple_of_awp (hT G) hm Tryz.func66 rfl (by decide +kernel) rfl (by decide +kernel) (by show 1 ≤ _; decide +kernel) rfl ?_
  conv => whnf
  refine ⟨⟨Unit, fun _ => [(0, .ref b 0), (2, .int .i64 0)], fun _ S' => S' = S, fun _ => 0⟩, ⟨(), ⟨rfl, rfl, trivial⟩, S, St.leW_refl _, rfl⟩, ?_⟩
  rintro ⟨⟩ S₁ rfl
  conv => whnf
  refine ⟨_, _, hS, ?_⟩
  conv => whnf
  refine ⟨_, _, hS, ?_⟩
  rw [forceL_eq]
  conv => whnf
  refine ⟨_, _, St.upd_same _ _ _, ?_⟩
  rw [forceL_eq]
  conv => whnf
  exact ⟨_, _, ⟨rfl, rfl⟩, by rw [St.upd_upd]; exact St.le_self hS, AV.leS_refl _ _ _⟩
theorem hold_vars0 (b : Nat) (B : BookA) (S : St) (hS : S b = some (.obj bookT { B with vars := .zero }.cells)) :
    Triple P (C G) 15 [.ref b 0] S fun o S' => o = .ret (.bool true) ∧ S' = S := by
  refine triple_of_awp (hT G) hm Tryz.func15 rfl (by decide +kernel) rfl (by decide +kernel) (by show 1 ≤ _; decide +kernel) rfl ?_
  conv => whnf
  refine ⟨⟨Unit, fun _ => [(0, .ref b 0), (3, .int .i64 0)], fun _ S' => S' = S, fun _ => 0⟩, ⟨(), ⟨rfl, rfl, trivial⟩, S, St.leW_refl _, rfl⟩, ?_⟩
  rintro ⟨⟩ S₁ rfl
  conv => whnf
  refine ⟨_, _, hS, ?_⟩
  conv => whnf
  refine ⟨⟨Unit, fun _ => [(0, .ref b 0), (4, .int .i64 0)], fun _ S' => S' = S₁, fun _ => 0⟩, ⟨(), ⟨rfl, rfl, trivial⟩, S₁, St.leW_refl _, rfl⟩, ?_⟩
  rintro ⟨⟩ S₂ rfl
  conv => whnf
  refine ⟨_, _, hS, ?_⟩
  conv => whnf
  exact ⟨_, _, ⟨rfl, rfl⟩, St.le_refl _, AV.leS_refl _ _ _⟩
theorem mark_pieces0 (b : Nat) (B : BookA) (S : St) (hS : S b = some (.obj bookT { B with pieces := .zero }.cells)) :
    Triple P (C G) 52 [.ref b 0] S fun o S' => o = .ret (.tu []) ∧ S' = S := by
  refine triple_of_awp (hT G) hm Tryz.func52 rfl (by decide +kernel) rfl (by decide +kernel) (by show 1 ≤ _; decide +kernel) rfl ?_
  conv => whnf
  refine ⟨_, _, hS, ?_⟩
  conv => whnf
  refine ⟨_, _, hS, ?_⟩
  conv => whnf
  refine ⟨_, _, hS, ?_⟩
  conv => whnf
  refine ⟨_, _, hS, ?_⟩
  conv => whnf
  exact ⟨_, S, ⟨rfl, rfl⟩, St.le_refl _, AV.leS_refl _ _ _⟩
theorem grow_pieces0 (b : Nat) (B : BookA) (S : St) (hS : S b = some (.obj bookT { B with pieces := .zero }.cells)) :
    Triple P (C G) 67 [.ref b 0] S fun o S' => o = .ret (.tu []) ∧ S' = S := by
  refine triple_of_awp (hT G) hm Tryz.func67 rfl (by decide +kernel) rfl (by decide +kernel) (by show 1 ≤ _; decide +kernel) rfl ?_
  conv => whnf
  refine ⟨⟨Unit, fun _ => [(0, .ref b 0), (2, .int .i64 0)], fun _ S' => S' = S, fun _ => 0⟩, ⟨(), ⟨rfl, rfl, trivial⟩, S, St.leW_refl _, rfl⟩, ?_⟩
  rintro ⟨⟩ S₁ rfl
  conv => whnf
  refine ⟨_, _, hS, ?_⟩
  conv => whnf
  refine ⟨_, _, hS, ?_⟩
  rw [forceL_eq]
  conv => whnf
  refine ⟨_, _, St.upd_same _ _ _, ?_⟩
  rw [forceL_eq]
  conv => whnf
  exact ⟨_, _, ⟨rfl, rfl⟩, by rw [St.upd_upd]; exact St.le_self hS, AV.leS_refl _ _ _⟩
theorem hold_pieces0 (b : Nat) (B : BookA) (S : St) (hS : S b = some (.obj bookT { B with pieces := .zero }.cells)) :
    Triple P (C G) 16 [.ref b 0] S fun o S' => o = .ret (.bool true) ∧ S' = S := by
  refine triple_of_awp (hT G) hm Tryz.func16 rfl (by decide +kernel) rfl (by decide +kernel) (by show 1 ≤ _; decide +kernel) rfl ?_
  conv => whnf
  refine ⟨⟨Unit, fun _ => [(0, .ref b 0), (3, .int .i64 0)], fun _ S' => S' = S, fun _ => 0⟩, ⟨(), ⟨rfl, rfl, trivial⟩, S, St.leW_refl _, rfl⟩, ?_⟩
  rintro ⟨⟩ S₁ rfl
  conv => whnf
  refine ⟨_, _, hS, ?_⟩
  conv => whnf
  refine ⟨⟨Unit, fun _ => [(0, .ref b 0), (4, .int .i64 0)], fun _ S' => S' = S₁, fun _ => 0⟩, ⟨(), ⟨rfl, rfl, trivial⟩, S₁, St.leW_refl _, rfl⟩, ?_⟩
  rintro ⟨⟩ S₂ rfl
  conv => whnf
  refine ⟨_, _, hS, ?_⟩
  conv => whnf
  exact ⟨_, _, ⟨rfl, rfl⟩, St.le_refl _, AV.leS_refl _ _ _⟩
theorem mark_ops0 (b : Nat) (B : BookA) (S : St) (hS : S b = some (.obj bookT { B with ops := .zero }.cells)) :
    Triple P (C G) 53 [.ref b 0] S fun o S' => o = .ret (.tu []) ∧ S' = S := by
  refine triple_of_awp (hT G) hm Tryz.func53 rfl (by decide +kernel) rfl (by decide +kernel) (by show 1 ≤ _; decide +kernel) rfl ?_
  conv => whnf
  refine ⟨_, _, hS, ?_⟩
  conv => whnf
  refine ⟨_, _, hS, ?_⟩
  conv => whnf
  refine ⟨_, _, hS, ?_⟩
  conv => whnf
  refine ⟨_, _, hS, ?_⟩
  conv => whnf
  exact ⟨_, S, ⟨rfl, rfl⟩, St.le_refl _, AV.leS_refl _ _ _⟩
theorem grow_ops0 (b : Nat) (B : BookA) (S : St) (hS : S b = some (.obj bookT { B with ops := .zero }.cells)) :
    Triple P (C G) 68 [.ref b 0] S fun o S' => o = .ret (.tu []) ∧ S' = S := by
  refine triple_of_awp (hT G) hm Tryz.func68 rfl (by decide +kernel) rfl (by decide +kernel) (by show 1 ≤ _; decide +kernel) rfl ?_
  conv => whnf
  refine ⟨⟨Unit, fun _ => [(0, .ref b 0), (2, .int .i64 0)], fun _ S' => S' = S, fun _ => 0⟩, ⟨(), ⟨rfl, rfl, trivial⟩, S, St.leW_refl _, rfl⟩, ?_⟩
  rintro ⟨⟩ S₁ rfl
  conv => whnf
  refine ⟨_, _, hS, ?_⟩
  conv => whnf
  refine ⟨_, _, hS, ?_⟩
  rw [forceL_eq]
  conv => whnf
  refine ⟨_, _, St.upd_same _ _ _, ?_⟩
  rw [forceL_eq]
  conv => whnf
  exact ⟨_, _, ⟨rfl, rfl⟩, by rw [St.upd_upd]; exact St.le_self hS, AV.leS_refl _ _ _⟩
theorem hold_ops0 (b : Nat) (B : BookA) (S : St) (hS : S b = some (.obj bookT { B with ops := .zero }.cells)) :
    Triple P (C G) 17 [.ref b 0] S fun o S' => o = .ret (.bool true) ∧ S' = S := by
  refine triple_of_awp (hT G) hm Tryz.func17 rfl (by decide +kernel) rfl (by decide +kernel) (by show 1 ≤ _; decide +kernel) rfl ?_
  conv => whnf
  refine ⟨⟨Unit, fun _ => [(0, .ref b 0), (3, .int .i64 0)], fun _ S' => S' = S, fun _ => 0⟩, ⟨(), ⟨rfl, rfl, trivial⟩, S, St.leW_refl _, rfl⟩, ?_⟩
  rintro ⟨⟩ S₁ rfl
  conv => whnf
  refine ⟨_, _, hS, ?_⟩
  conv => whnf
  refine ⟨⟨Unit, fun _ => [(0, .ref b 0), (4, .int .i64 0)], fun _ S' => S' = S₁, fun _ => 0⟩, ⟨(), ⟨rfl, rfl, trivial⟩, S₁, St.leW_refl _, rfl⟩, ?_⟩
  rintro ⟨⟩ S₂ rfl
  conv => whnf
  refine ⟨_, _, hS, ?_⟩
  conv => whnf
  exact ⟨_, _, ⟨rfl, rfl⟩, St.le_refl _, AV.leS_refl _ _ _⟩
theorem mark_cuts0 (b : Nat) (B : BookA) (S : St) (hS : S b = some (.obj bookT { B with cuts := .zero }.cells)) :
    Triple P (C G) 54 [.ref b 0] S fun o S' => o = .ret (.tu []) ∧ S' = S := by
  refine triple_of_awp (hT G) hm Tryz.func54 rfl (by decide +kernel) rfl (by decide +kernel) (by show 1 ≤ _; decide +kernel) rfl ?_
  conv => whnf
  refine ⟨_, _, hS, ?_⟩
  conv => whnf
  refine ⟨_, _, hS, ?_⟩
  conv => whnf
  refine ⟨_, _, hS, ?_⟩
  conv => whnf
  refine ⟨_, _, hS, ?_⟩
  conv => whnf
  exact ⟨_, S, ⟨rfl, rfl⟩, St.le_refl _, AV.leS_refl _ _ _⟩
theorem grow_cuts0 (b : Nat) (B : BookA) (S : St) (hS : S b = some (.obj bookT { B with cuts := .zero }.cells)) :
    Triple P (C G) 69 [.ref b 0] S fun o S' => o = .ret (.tu []) ∧ S' = S := by
  refine triple_of_awp (hT G) hm Tryz.func69 rfl (by decide +kernel) rfl (by decide +kernel) (by show 1 ≤ _; decide +kernel) rfl ?_
  conv => whnf
  refine ⟨⟨Unit, fun _ => [(0, .ref b 0), (2, .int .i64 0)], fun _ S' => S' = S, fun _ => 0⟩, ⟨(), ⟨rfl, rfl, trivial⟩, S, St.leW_refl _, rfl⟩, ?_⟩
  rintro ⟨⟩ S₁ rfl
  conv => whnf
  refine ⟨_, _, hS, ?_⟩
  conv => whnf
  refine ⟨_, _, hS, ?_⟩
  rw [forceL_eq]
  conv => whnf
  refine ⟨_, _, St.upd_same _ _ _, ?_⟩
  rw [forceL_eq]
  conv => whnf
  exact ⟨_, _, ⟨rfl, rfl⟩, by rw [St.upd_upd]; exact St.le_self hS, AV.leS_refl _ _ _⟩
theorem hold_cuts0 (b : Nat) (B : BookA) (S : St) (hS : S b = some (.obj bookT { B with cuts := .zero }.cells)) :
    Triple P (C G) 18 [.ref b 0] S fun o S' => o = .ret (.bool true) ∧ S' = S := by
  refine triple_of_awp (hT G) hm Tryz.func18 rfl (by decide +kernel) rfl (by decide +kernel) (by show 1 ≤ _; decide +kernel) rfl ?_
  conv => whnf
  refine ⟨⟨Unit, fun _ => [(0, .ref b 0), (3, .int .i64 0)], fun _ S' => S' = S, fun _ => 0⟩, ⟨(), ⟨rfl, rfl, trivial⟩, S, St.leW_refl _, rfl⟩, ?_⟩
  rintro ⟨⟩ S₁ rfl
  conv => whnf
  refine ⟨_, _, hS, ?_⟩
  conv => whnf
  refine ⟨⟨Unit, fun _ => [(0, .ref b 0), (4, .int .i64 0)], fun _ S' => S' = S₁, fun _ => 0⟩, ⟨(), ⟨rfl, rfl, trivial⟩, S₁, St.leW_refl _, rfl⟩, ?_⟩
  rintro ⟨⟩ S₂ rfl
  conv => whnf
  refine ⟨_, _, hS, ?_⟩
  conv => whnf
  exact ⟨_, _, ⟨rfl, rfl⟩, St.le_refl _, AV.leS_refl _ _ _⟩
theorem mark_means0 (b : Nat) (B : BookA) (S : St) (hS : S b = some (.obj bookT { B with means := .zero }.cells)) :
    Triple P (C G) 55 [.ref b 0] S fun o S' => o = .ret (.tu []) ∧ S' = S := by
  refine triple_of_awp (hT G) hm Tryz.func55 rfl (by decide +kernel) rfl (by decide +kernel) (by show 1 ≤ _; decide +kernel) rfl ?_
  conv => whnf
  refine ⟨_, _, hS, ?_⟩
  conv => whnf
  refine ⟨_, _, hS, ?_⟩
  conv => whnf
  refine ⟨_, _, hS, ?_⟩
  conv => whnf
  refine ⟨_, _, hS, ?_⟩
  conv => whnf
  exact ⟨_, S, ⟨rfl, rfl⟩, St.le_refl _, AV.leS_refl _ _ _⟩
theorem grow_means0 (b : Nat) (B : BookA) (S : St) (hS : S b = some (.obj bookT { B with means := .zero }.cells)) :
    Triple P (C G) 70 [.ref b 0] S fun o S' => o = .ret (.tu []) ∧ S' = S := by
  refine triple_of_awp (hT G) hm Tryz.func70 rfl (by decide +kernel) rfl (by decide +kernel) (by show 1 ≤ _; decide +kernel) rfl ?_
  conv => whnf
  refine ⟨⟨Unit, fun _ => [(0, .ref b 0), (2, .int .i64 0)], fun _ S' => S' = S, fun _ => 0⟩, ⟨(), ⟨rfl, rfl, trivial⟩, S, St.leW_refl _, rfl⟩, ?_⟩
  rintro ⟨⟩ S₁ rfl
  conv => whnf
  refine ⟨_, _, hS, ?_⟩
  conv => whnf
  refine ⟨_, _, hS, ?_⟩
  rw [forceL_eq]
  conv => whnf
  refine ⟨_, _, St.upd_same _ _ _, ?_⟩
  rw [forceL_eq]
  conv => whnf
  exact ⟨_, _, ⟨rfl, rfl⟩, by rw [St.upd_upd]; exact St.le_self hS, AV.leS_refl _ _ _⟩
theorem hold_means0 (b : Nat) (B : BookA) (S : St) (hS : S b = some (.obj bookT { B with means := .zero }.cells)) :
    Triple P (C G) 19 [.ref b 0] S fun o S' => o = .ret (.bool true) ∧ S' = S := by
  refine triple_of_awp (hT G) hm Tryz.func19 rfl (by decide +kernel) rfl (by decide +kernel) (by show 1 ≤ _; decide +kernel) rfl ?_
  conv => whnf
  refine ⟨⟨Unit, fun _ => [(0, .ref b 0), (3, .int .i64 0)], fun _ S' => S' = S, fun _ => 0⟩, ⟨(), ⟨rfl, rfl, trivial⟩, S, St.leW_refl _, rfl⟩, ?_⟩
  rintro ⟨⟩ S₁ rfl
  conv => whnf
  refine ⟨_, _, hS, ?_⟩
  conv => whnf
  refine ⟨⟨Unit, fun _ => [(0, .ref b 0), (4, .int .i64 0)], fun _ S' => S' = S₁, fun _ => 0⟩, ⟨(), ⟨rfl, rfl, trivial⟩, S₁, St.leW_refl _, rfl⟩, ?_⟩
  rintro ⟨⟩ S₂ rfl
  conv => whnf
  refine ⟨_, _, hS, ?_⟩
  conv => whnf
  exact ⟨_, _, ⟨rfl, rfl⟩, St.le_refl _, AV.leS_refl _ _ _⟩
theorem mark_lists0 (b : Nat) (B : BookA) (S : St) (hS : S b = some (.obj bookT { B with lists := .zero }.cells)) :
    Triple P (C G) 56 [.ref b 0] S fun o S' => o = .ret (.tu []) ∧ S' = S := by
  refine triple_of_awp (hT G) hm Tryz.func56 rfl (by decide +kernel) rfl (by decide +kernel) (by show 1 ≤ _; decide +kernel) rfl ?_
  conv => whnf
  refine ⟨_, _, hS, ?_⟩
  conv => whnf
  refine ⟨_, _, hS, ?_⟩
  conv => whnf
  refine ⟨_, _, hS, ?_⟩
  conv => whnf
  refine ⟨_, _, hS, ?_⟩
  conv => whnf
  exact ⟨_, S, ⟨rfl, rfl⟩, St.le_refl _, AV.leS_refl _ _ _⟩
theorem grow_lists0 (b : Nat) (B : BookA) (S : St) (hS : S b = some (.obj bookT { B with lists := .zero }.cells)) :
    Triple P (C G) 71 [.ref b 0] S fun o S' => o = .ret (.tu []) ∧ S' = S := by
  refine triple_of_awp (hT G) hm Tryz.func71 rfl (by decide +kernel) rfl (by decide +kernel) (by show 1 ≤ _; decide +kernel) rfl ?_
  conv => whnf
  refine ⟨⟨Unit, fun _ => [(0, .ref b 0), (2, .int .i64 0)], fun _ S' => S' = S, fun _ => 0⟩, ⟨(), ⟨rfl, rfl, trivial⟩, S, St.leW_refl _, rfl⟩, ?_⟩
  rintro ⟨⟩ S₁ rfl
  conv => whnf
  refine ⟨_, _, hS, ?_⟩
  conv => whnf
  refine ⟨_, _, hS, ?_⟩
  rw [forceL_eq]
  conv => whnf
  refine ⟨_, _, St.upd_same _ _ _, ?_⟩
  rw [forceL_eq]
  conv => whnf
  exact ⟨_, _, ⟨rfl, rfl⟩, by rw [St.upd_upd]; exact St.le_self hS, AV.leS_refl _ _ _⟩
theorem hold_lists0 (b : Nat) (B : BookA) (S : St) (hS : S b = some (.obj bookT { B with lists := .zero }.cells)) :
    Triple P (C G) 20 [.ref b 0] S fun o S' => o = .ret (.bool true) ∧ S' = S := by
  refine triple_of_awp (hT G) hm Tryz.func20 rfl (by decide +kernel) rfl (by decide +kernel) (by show 1 ≤ _; decide +kernel) rfl ?_
  conv => whnf
  refine ⟨⟨Unit, fun _ => [(0, .ref b 0), (3, .int .i64 0)], fun _ S' => S' = S, fun _ => 0⟩, ⟨(), ⟨rfl, rfl, trivial⟩, S, St.leW_refl _, rfl⟩, ?_⟩
  rintro ⟨⟩ S₁ rfl
  conv => whnf
  refine ⟨_, _, hS, ?_⟩
  conv => whnf
  refine ⟨⟨Unit, fun _ => [(0, .ref b 0), (4, .int .i64 0)], fun _ S' => S' = S₁, fun _ => 0⟩, ⟨(), ⟨rfl, rfl, trivial⟩, S₁, St.leW_refl _, rfl⟩, ?_⟩
  rintro ⟨⟩ S₂ rfl
  conv => whnf
  refine ⟨_, _, hS, ?_⟩
  conv => whnf
  exact ⟨_, _, ⟨rfl, rfl⟩, St.le_refl _, AV.leS_refl _ _ _⟩
theorem mark_cons0 (b : Nat) (B : BookA) (S : St) (hS : S b = some (.obj bookT { B with cons := .zero }.cells)) :
    Triple P (C G) 57 [.ref b 0] S fun o S' => o = .ret (.tu []) ∧ S' = S := by
  refine triple_of_awp (hT G) hm Tryz.func57 rfl (by decide +kernel) rfl (by decide +kernel) (by show 1 ≤ _; decide +kernel) rfl ?_
  conv => whnf
  refine ⟨_, _, hS, ?_⟩
  conv => whnf
  refine ⟨_, _, hS, ?_⟩
  conv => whnf
  refine ⟨_, _, hS, ?_⟩
  conv => whnf
  refine ⟨_, _, hS, ?_⟩
  conv => whnf
  exact ⟨_, S, ⟨rfl, rfl⟩, St.le_refl _, AV.leS_refl _ _ _⟩
theorem grow_cons0 (b : Nat) (B : BookA) (S : St) (hS : S b = some (.obj bookT { B with cons := .zero }.cells)) :
    Triple P (C G) 72 [.ref b 0] S fun o S' => o = .ret (.tu []) ∧ S' = S := by
  refine triple_of_awp (hT G) hm Tryz.func72 rfl (by decide +kernel) rfl (by decide +kernel) (by show 1 ≤ _; decide +kernel) rfl ?_
  conv => whnf
  refine ⟨⟨Unit, fun _ => [(0, .ref b 0), (2, .int .i64 0)], fun _ S' => S' = S, fun _ => 0⟩, ⟨(), ⟨rfl, rfl, trivial⟩, S, St.leW_refl _, rfl⟩, ?_⟩
  rintro ⟨⟩ S₁ rfl
  conv => whnf
  refine ⟨_, _, hS, ?_⟩
  conv => whnf
  refine ⟨_, _, hS, ?_⟩
  rw [forceL_eq]
  conv => whnf
  refine ⟨_, _, St.upd_same _ _ _, ?_⟩
  rw [forceL_eq]
  conv => whnf
  exact ⟨_, _, ⟨rfl, rfl⟩, by rw [St.upd_upd]; exact St.le_self hS, AV.leS_refl _ _ _⟩
theorem hold_cons0 (b : Nat) (B : BookA) (S : St) (hS : S b = some (.obj bookT { B with cons := .zero }.cells)) :
    Triple P (C G) 21 [.ref b 0] S fun o S' => o = .ret (.bool true) ∧ S' = S := by
  refine triple_of_awp (hT G) hm Tryz.func21 rfl (by decide +kernel) rfl (by decide +kernel) (by show 1 ≤ _; decide +kernel) rfl ?_
  conv => whnf
  refine ⟨⟨Unit, fun _ => [(0, .ref b 0), (3, .int .i64 0)], fun _ S' => S' = S, fun _ => 0⟩, ⟨(), ⟨rfl, rfl, trivial⟩, S, St.leW_refl _, rfl⟩, ?_⟩
  rintro ⟨⟩ S₁ rfl
  conv => whnf
  refine ⟨_, _, hS, ?_⟩
  conv => whnf
  refine ⟨⟨Unit, fun _ => [(0, .ref b 0), (4, .int .i64 0)], fun _ S' => S' = S₁, fun _ => 0⟩, ⟨(), ⟨rfl, rfl, trivial⟩, S₁, St.leW_refl _, rfl⟩, ?_⟩
  rintro ⟨⟩ S₂ rfl
  conv => whnf
  refine ⟨_, _, hS, ?_⟩
  conv => whnf
  exact ⟨_, _, ⟨rfl, rfl⟩, St.le_refl _, AV.leS_refl _ _ _⟩
theorem mark_rows0 (b : Nat) (B : BookA) (S : St) (hS : S b = some (.obj bookT { B with rows := .zero }.cells)) :
    Triple P (C G) 58 [.ref b 0] S fun o S' => o = .ret (.tu []) ∧ S' = S := by
  refine triple_of_awp (hT G) hm Tryz.func58 rfl (by decide +kernel) rfl (by decide +kernel) (by show 1 ≤ _; decide +kernel) rfl ?_
  conv => whnf
  refine ⟨_, _, hS, ?_⟩
  conv => whnf
  refine ⟨_, _, hS, ?_⟩
  conv => whnf
  refine ⟨_, _, hS, ?_⟩
  conv => whnf
  refine ⟨_, _, hS, ?_⟩
  conv => whnf
  exact ⟨_, S, ⟨rfl, rfl⟩, St.le_refl _, AV.leS_refl _ _ _⟩
theorem grow_rows0 (b : Nat) (B : BookA) (S : St) (hS : S b = some (.obj bookT { B with rows := .zero }.cells)) :
    Triple P (C G) 73 [.ref b 0] S fun o S' => o = .ret (.tu []) ∧ S' = S := by
  refine triple_of_awp (hT G) hm Tryz.func73 rfl (by decide +kernel) rfl (by decide +kernel) (by show 1 ≤ _; decide +kernel) rfl ?_
  conv => whnf
  refine ⟨⟨Unit, fun _ => [(0, .ref b 0), (2, .int .i64 0)], fun _ S' => S' = S, fun _ => 0⟩, ⟨(), ⟨rfl, rfl, trivial⟩, S, St.leW_refl _, rfl⟩, ?_⟩
  rintro ⟨⟩ S₁ rfl
  conv => whnf
  refine ⟨_, _, hS, ?_⟩
  conv => whnf
  refine ⟨_, _, hS, ?_⟩
  rw [forceL_eq]
  conv => whnf
  refine ⟨_, _, St.upd_same _ _ _, ?_⟩
  rw [forceL_eq]
  conv => whnf
  exact ⟨_, _, ⟨rfl, rfl⟩, by rw [St.upd_upd]; exact St.le_self hS, AV.leS_refl _ _ _⟩
theorem hold_rows0 (b : Nat) (B : BookA) (S : St) (hS : S b = some (.obj bookT { B with rows := .zero }.cells)) :
    Triple P (C G) 22 [.ref b 0] S fun o S' => o = .ret (.bool true) ∧ S' = S := by
  refine triple_of_awp (hT G) hm Tryz.func22 rfl (by decide +kernel) rfl (by decide +kernel) (by show 1 ≤ _; decide +kernel) rfl ?_
  conv => whnf
  refine ⟨⟨Unit, fun _ => [(0, .ref b 0), (3, .int .i64 0)], fun _ S' => S' = S, fun _ => 0⟩, ⟨(), ⟨rfl, rfl, trivial⟩, S, St.leW_refl _, rfl⟩, ?_⟩
  rintro ⟨⟩ S₁ rfl
  conv => whnf
  refine ⟨_, _, hS, ?_⟩
  conv => whnf
  refine ⟨⟨Unit, fun _ => [(0, .ref b 0), (4, .int .i64 0)], fun _ S' => S' = S₁, fun _ => 0⟩, ⟨(), ⟨rfl, rfl, trivial⟩, S₁, St.leW_refl _, rfl⟩, ?_⟩
  rintro ⟨⟩ S₂ rfl
  conv => whnf
  refine ⟨_, _, hS, ?_⟩
  conv => whnf
  exact ⟨_, _, ⟨rfl, rfl⟩, St.le_refl _, AV.leS_refl _ _ _⟩
theorem mark_steps0 (b : Nat) (B : BookA) (S : St) (hS : S b = some (.obj bookT { B with steps := .zero }.cells)) :
    Triple P (C G) 59 [.ref b 0] S fun o S' => o = .ret (.tu []) ∧ S' = S := by
  refine triple_of_awp (hT G) hm Tryz.func59 rfl (by decide +kernel) rfl (by decide +kernel) (by show 1 ≤ _; decide +kernel) rfl ?_
  conv => whnf
  refine ⟨_, _, hS, ?_⟩
  conv => whnf
  refine ⟨_, _, hS, ?_⟩
  conv => whnf
  refine ⟨_, _, hS, ?_⟩
  conv => whnf
  refine ⟨_, _, hS, ?_⟩
  conv => whnf
  exact ⟨_, S, ⟨rfl, rfl⟩, St.le_refl _, AV.leS_refl _ _ _⟩
theorem grow_steps0 (b : Nat) (B : BookA) (S : St) (hS : S b = some (.obj bookT { B with steps := .zero }.cells)) :
    Triple P (C G) 74 [.ref b 0] S fun o S' => o = .ret (.tu []) ∧ S' = S := by
  refine triple_of_awp (hT G) hm Tryz.func74 rfl (by decide +kernel) rfl (by decide +kernel) (by show 1 ≤ _; decide +kernel) rfl ?_
  conv => whnf
  refine ⟨⟨Unit, fun _ => [(0, .ref b 0), (2, .int .i64 0)], fun _ S' => S' = S, fun _ => 0⟩, ⟨(), ⟨rfl, rfl, trivial⟩, S, St.leW_refl _, rfl⟩, ?_⟩
  rintro ⟨⟩ S₁ rfl
  conv => whnf
  refine ⟨_, _, hS, ?_⟩
  conv => whnf
  refine ⟨_, _, hS, ?_⟩
  rw [forceL_eq]
  conv => whnf
  refine ⟨_, _, St.upd_same _ _ _, ?_⟩
  rw [forceL_eq]
  conv => whnf
  exact ⟨_, _, ⟨rfl, rfl⟩, by rw [St.upd_upd]; exact St.le_self hS, AV.leS_refl _ _ _⟩
theorem hold_steps0 (b : Nat) (B : BookA) (S : St) (hS : S b = some (.obj bookT { B with steps := .zero }.cells)) :
    Triple P (C G) 23 [.ref b 0] S fun o S' => o = .ret (.bool true) ∧ S' = S := by
  refine triple_of_awp (hT G) hm Tryz.func23 rfl (by decide +kernel) rfl (by decide +kernel) (by show 1 ≤ _; decide +kernel) rfl ?_
  conv => whnf
  refine ⟨⟨Unit, fun _ => [(0, .ref b 0), (3, .int .i64 0)], fun _ S' => S' = S, fun _ => 0⟩, ⟨(), ⟨rfl, rfl, trivial⟩, S, St.leW_refl _, rfl⟩, ?_⟩
  rintro ⟨⟩ S₁ rfl
  conv => whnf
  refine ⟨_, _, hS, ?_⟩
  conv => whnf
  refine ⟨⟨Unit, fun _ => [(0, .ref b 0), (4, .int .i64 0)], fun _ S' => S' = S₁, fun _ => 0⟩, ⟨(), ⟨rfl, rfl, trivial⟩, S₁, St.leW_refl _, rfl⟩, ?_⟩
  rintro ⟨⟩ S₂ rfl
  conv => whnf
  refine ⟨_, _, hS, ?_⟩
  conv => whnf
  exact ⟨_, _, ⟨rfl, rfl⟩, St.le_refl _, AV.leS_refl _ _ _⟩
theorem mark_halls0 (b : Nat) (B : BookA) (S : St) (hS : S b = some (.obj bookT { B with halls := .zero }.cells)) :
    Triple P (C G) 60 [.ref b 0] S fun o S' => o = .ret (.tu []) ∧ S' = S := by
  refine triple_of_awp (hT G) hm Tryz.func60 rfl (by decide +kernel) rfl (by decide +kernel) (by show 1 ≤ _; decide +kernel) rfl ?_
  conv => whnf
  refine ⟨_, _, hS, ?_⟩
  conv => whnf
  refine ⟨_, _, hS, ?_⟩
  conv => whnf
  refine ⟨_, _, hS, ?_⟩
  conv => whnf
  refine ⟨_, _, hS, ?_⟩
  conv => whnf
  exact ⟨_, S, ⟨rfl, rfl⟩, St.le_refl _, AV.leS_refl _ _ _⟩
theorem grow_halls0 (b : Nat) (B : BookA) (S : St) (hS : S b = some (.obj bookT { B with halls := .zero }.cells)) :
    Triple P (C G) 75 [.ref b 0] S fun o S' => o = .ret (.tu []) ∧ S' = S := by
  refine triple_of_awp (hT G) hm Tryz.func75 rfl (by decide +kernel) rfl (by decide +kernel) (by show 1 ≤ _; decide +kernel) rfl ?_
  conv => whnf
  refine ⟨⟨Unit, fun _ => [(0, .ref b 0), (2, .int .i64 0)], fun _ S' => S' = S, fun _ => 0⟩, ⟨(), ⟨rfl, rfl, trivial⟩, S, St.leW_refl _, rfl⟩, ?_⟩
  rintro ⟨⟩ S₁ rfl
  conv => whnf
  refine ⟨_, _, hS, ?_⟩
  conv => whnf
  refine ⟨_, _, hS, ?_⟩
  rw [forceL_eq]
  conv => whnf
  refine ⟨_, _, St.upd_same _ _ _, ?_⟩
  rw [forceL_eq]
  conv => whnf
  exact ⟨_, _, ⟨rfl, rfl⟩, by rw [St.upd_upd]; exact St.le_self hS, AV.leS_refl _ _ _⟩
theorem hold_halls0 (b : Nat) (B : BookA) (S : St) (hS : S b = some (.obj bookT { B with halls := .zero }.cells)) :
    Triple P (C G) 24 [.ref b 0] S fun o S' => o = .ret (.bool true) ∧ S' = S := by
  refine triple_of_awp (hT G) hm Tryz.func24 rfl (by decide +kernel) rfl (by decide +kernel) (by show 1 ≤ _; decide +kernel) rfl ?_
  conv => whnf
  refine ⟨⟨Unit, fun _ => [(0, .ref b 0), (3, .int .i64 0)], fun _ S' => S' = S, fun _ => 0⟩, ⟨(), ⟨rfl, rfl, trivial⟩, S, St.leW_refl _, rfl⟩, ?_⟩
  rintro ⟨⟩ S₁ rfl
  conv => whnf
  refine ⟨_, _, hS, ?_⟩
  conv => whnf
  refine ⟨⟨Unit, fun _ => [(0, .ref b 0), (4, .int .i64 0)], fun _ S' => S' = S₁, fun _ => 0⟩, ⟨(), ⟨rfl, rfl, trivial⟩, S₁, St.leW_refl _, rfl⟩, ?_⟩
  rintro ⟨⟩ S₂ rfl
  conv => whnf
  refine ⟨_, _, hS, ?_⟩
  conv => whnf
  exact ⟨_, _, ⟨rfl, rfl⟩, St.le_refl _, AV.leS_refl _ _ _⟩
theorem mark_causes0 (b : Nat) (B : BookA) (S : St) (hS : S b = some (.obj bookT { B with causes := .zero }.cells)) :
    Triple P (C G) 61 [.ref b 0] S fun o S' => o = .ret (.tu []) ∧ S' = S := by
  refine triple_of_awp (hT G) hm Tryz.func61 rfl (by decide +kernel) rfl (by decide +kernel) (by show 1 ≤ _; decide +kernel) rfl ?_
  conv => whnf
  refine ⟨_, _, hS, ?_⟩
  conv => whnf
  refine ⟨_, _, hS, ?_⟩
  conv => whnf
  refine ⟨_, _, hS, ?_⟩
  conv => whnf
  refine ⟨_, _, hS, ?_⟩
  conv => whnf
  exact ⟨_, S, ⟨rfl, rfl⟩, St.le_refl _, AV.leS_refl _ _ _⟩
theorem grow_causes0 (b : Nat) (B : BookA) (S : St) (hS : S b = some (.obj bookT { B with causes := .zero }.cells)) :
    Triple P (C G) 76 [.ref b 0] S fun o S' => o = .ret (.tu []) ∧ S' = S := by
  refine triple_of_awp (hT G) hm Tryz.func76 rfl (by decide +kernel) rfl (by decide +kernel) (by show 1 ≤ _; decide +kernel) rfl ?_
  conv => whnf
  refine ⟨⟨Unit, fun _ => [(0, .ref b 0), (2, .int .i64 0)], fun _ S' => S' = S, fun _ => 0⟩, ⟨(), ⟨rfl, rfl, trivial⟩, S, St.leW_refl _, rfl⟩, ?_⟩
  rintro ⟨⟩ S₁ rfl
  conv => whnf
  refine ⟨_, _, hS, ?_⟩
  conv => whnf
  refine ⟨_, _, hS, ?_⟩
  rw [forceL_eq]
  conv => whnf
  refine ⟨_, _, St.upd_same _ _ _, ?_⟩
  rw [forceL_eq]
  conv => whnf
  exact ⟨_, _, ⟨rfl, rfl⟩, by rw [St.upd_upd]; exact St.le_self hS, AV.leS_refl _ _ _⟩
theorem hold_causes0 (b : Nat) (B : BookA) (S : St) (hS : S b = some (.obj bookT { B with causes := .zero }.cells)) :
    Triple P (C G) 25 [.ref b 0] S fun o S' => o = .ret (.bool true) ∧ S' = S := by
  refine triple_of_awp (hT G) hm Tryz.func25 rfl (by decide +kernel) rfl (by decide +kernel) (by show 1 ≤ _; decide +kernel) rfl ?_
  conv => whnf
  refine ⟨⟨Unit, fun _ => [(0, .ref b 0), (3, .int .i64 0)], fun _ S' => S' = S, fun _ => 0⟩, ⟨(), ⟨rfl, rfl, trivial⟩, S, St.leW_refl _, rfl⟩, ?_⟩
  rintro ⟨⟩ S₁ rfl
  conv => whnf
  refine ⟨_, _, hS, ?_⟩
  conv => whnf
  refine ⟨⟨Unit, fun _ => [(0, .ref b 0), (4, .int .i64 0)], fun _ S' => S' = S₁, fun _ => 0⟩, ⟨(), ⟨rfl, rfl, trivial⟩, S₁, St.leW_refl _, rfl⟩, ?_⟩
  rintro ⟨⟩ S₂ rfl
  conv => whnf
  refine ⟨_, _, hS, ?_⟩
  conv => whnf
  exact ⟨_, _, ⟨rfl, rfl⟩, St.le_refl _, AV.leS_refl _ _ _⟩
theorem mark_acts0 (b : Nat) (B : BookA) (S : St) (hS : S b = some (.obj bookT { B with acts := .zero }.cells)) :
    Triple P (C G) 62 [.ref b 0] S fun o S' => o = .ret (.tu []) ∧ S' = S := by
  refine triple_of_awp (hT G) hm Tryz.func62 rfl (by decide +kernel) rfl (by decide +kernel) (by show 1 ≤ _; decide +kernel) rfl ?_
  conv => whnf
  refine ⟨_, _, hS, ?_⟩
  conv => whnf
  refine ⟨_, _, hS, ?_⟩
  conv => whnf
  refine ⟨_, _, hS, ?_⟩
  conv => whnf
  refine ⟨_, _, hS, ?_⟩
  conv => whnf
  exact ⟨_, S, ⟨rfl, rfl⟩, St.le_refl _, AV.leS_refl _ _ _⟩
theorem grow_acts0 (b : Nat) (B : BookA) (S : St) (hS : S b = some (.obj bookT { B with acts := .zero }.cells)) :
    Triple P (C G) 77 [.ref b 0] S fun o S' => o = .ret (.tu []) ∧ S' = S := by
  refine triple_of_awp (hT G) hm Tryz.func77 rfl (by decide +kernel) rfl (by decide +kernel) (by show 1 ≤ _; decide +kernel) rfl ?_
  conv => whnf
  refine ⟨⟨Unit, fun _ => [(0, .ref b 0), (2, .int .i64 0)], fun _ S' => S' = S, fun _ => 0⟩, ⟨(), ⟨rfl, rfl, trivial⟩, S, St.leW_refl _, rfl⟩, ?_⟩
  rintro ⟨⟩ S₁ rfl
  conv => whnf
  refine ⟨_, _, hS, ?_⟩
  conv => whnf
  refine ⟨_, _, hS, ?_⟩
  rw [forceL_eq]
  conv => whnf
  refine ⟨_, _, St.upd_same _ _ _, ?_⟩
  rw [forceL_eq]
  conv => whnf
  exact ⟨_, _, ⟨rfl, rfl⟩, by rw [St.upd_upd]; exact St.le_self hS, AV.leS_refl _ _ _⟩
theorem hold_acts0 (b : Nat) (B : BookA) (S : St) (hS : S b = some (.obj bookT { B with acts := .zero }.cells)) :
    Triple P (C G) 26 [.ref b 0] S fun o S' => o = .ret (.bool true) ∧ S' = S := by
  refine triple_of_awp (hT G) hm Tryz.func26 rfl (by decide +kernel) rfl (by decide +kernel) (by show 1 ≤ _; decide +kernel) rfl ?_
  conv => whnf
  refine ⟨⟨Unit, fun _ => [(0, .ref b 0), (3, .int .i64 0)], fun _ S' => S' = S, fun _ => 0⟩, ⟨(), ⟨rfl, rfl, trivial⟩, S, St.leW_refl _, rfl⟩, ?_⟩
  rintro ⟨⟩ S₁ rfl
  conv => whnf
  refine ⟨_, _, hS, ?_⟩
  conv => whnf
  refine ⟨⟨Unit, fun _ => [(0, .ref b 0), (4, .int .i64 0)], fun _ S' => S' = S₁, fun _ => 0⟩, ⟨(), ⟨rfl, rfl, trivial⟩, S₁, St.leW_refl _, rfl⟩, ?_⟩
  rintro ⟨⟩ S₂ rfl
  conv => whnf
  refine ⟨_, _, hS, ?_⟩
  conv => whnf
  exact ⟨_, _, ⟨rfl, rfl⟩, St.le_refl _, AV.leS_refl _ _ _⟩
end Go.Proofs.YtikkoaoibomofaaGreatDoor.Aw

/-
  Hallmarkkept's Book: due.
-/
import Derived.Test.YtikkoaoibomofaaGreatDoorAwB4
set_option maxRecDepth 100000
set_option linter.unusedVariables false
set_option linter.unusedSimpArgs false
namespace Go.Proofs.YtikkoaoibomofaaGreatDoor.Aw
open Go Go.RowKit
variable {G : Nat → Option (List AV)}
def BookA.txt (nw : Bool) (turn deep : Int) (K : KindA) : BookA := { BookA.zero with now := nw, turn := turn, deep := deep, texts := K }
theorem due_ok (bk : Nat) (nw : Bool) (turn deep : Int) (K : KindA) (n : Int) (S : St) (hS : S bk = some (.obj bookT (BookA.txt nw turn deep K).cells)) :
    ∃ d, Triple P (C G) 10 [.ref bk 0, .int .i64 n] S fun o S' => o = .ret (.int .i64 d) ∧ S' = S := by
  cases nw with
  | true =>
    refine ⟨turn, ?_⟩
    refine triple_of_awp (hT G) hm Tryz.func10 rfl (by decide +kernel) rfl (by decide +kernel) (by show 2 ≤ _; decide +kernel) rfl ?_
    conv => whnf
    refine ⟨_, _, hS, ?_⟩
    conv => whnf
    refine ⟨_, _, hS, ?_⟩
    conv => whnf
    exact ⟨_, _, ⟨rfl, rfl⟩, St.le_refl _, AV.leS_refl _ _ _⟩
  | false =>
    by_cases h0 : n.tmod 3 = 0
    · refine ⟨turn, ?_⟩
      refine triple_of_awp (hT G) hm Tryz.func10 rfl (by decide +kernel) rfl (by decide +kernel) (by show 2 ≤ _; decide +kernel) rfl ?_
      conv => whnf
      refine ⟨_, _, hS, ?_⟩
      conv => whnf
      refine ⟨by decide, ?_⟩
      conv => whnf
      refine split_of (fun h => ?_) (fun h => absurd h (by simp [h0]))
      conv => whnf
      refine ⟨_, _, hS, ?_⟩
      conv => whnf
      exact ⟨_, _, ⟨rfl, rfl⟩, St.le_refl _, AV.leS_refl _ _ _⟩
    · by_cases h1 : n.tmod 3 = 1
      · refine ⟨IntKind.i64.wrap (IntKind.i64.wrap (turn + 1) + (IntKind.i64.wrap (n.tdiv 3)).tmod 8), ?_⟩
        refine triple_of_awp (hT G) hm Tryz.func10 rfl (by decide +kernel) rfl (by decide +kernel) (by show 2 ≤ _; decide +kernel) rfl ?_
        conv => whnf
        refine ⟨_, _, hS, ?_⟩
        conv => whnf
        refine ⟨by decide, ?_⟩
        conv => whnf
        refine split_of (fun h => absurd h (by simp [h0])) (fun h => ?_)
        conv => whnf
        refine ⟨by decide, ?_⟩
        conv => whnf
        refine split_of (fun h => ?_) (fun h => absurd h (by simp [h1]))
        conv => whnf
        refine ⟨_, _, hS, ?_⟩
        conv => whnf
        refine ⟨by decide, ?_⟩
        conv => whnf
        refine ⟨by decide, ?_⟩
        conv => whnf
        exact ⟨_, _, ⟨rfl, rfl⟩, St.le_refl _, AV.leS_refl _ _ _⟩
      · refine ⟨IntKind.i64.wrap (turn + 1), ?_⟩
        refine triple_of_awp (hT G) hm Tryz.func10 rfl (by decide +kernel) rfl (by decide +kernel) (by show 2 ≤ _; decide +kernel) rfl ?_
        conv => whnf
        refine ⟨_, _, hS, ?_⟩
        conv => whnf
        refine ⟨by decide, ?_⟩
        conv => whnf
        refine split_of (fun h => absurd h (by simp [h0])) (fun h => ?_)
        conv => whnf
        refine ⟨by decide, ?_⟩
        conv => whnf
        refine split_of (fun h => absurd h (by simp [h1])) (fun h => ?_)
        conv => whnf
        refine ⟨_, _, hS, ?_⟩
        conv => whnf
        exact ⟨_, _, ⟨rfl, rfl⟩, St.le_refl _, AV.leS_refl _ _ _⟩
end Go.Proofs.YtikkoaoibomofaaGreatDoor.Aw

/-
  The statement WriteReads: for every number of rows, every flag and every list of calls, hallmarklaw16.WriteReads returns true, and its arguments read as they did. Its condition is the row's own: the variables that the row lists hold what it lists.
-/
import Derived.Test.YtcpdgnkhkdddhaaGreatDoorWrd16
import Derived.Test.YtcpdgnkhkdddhaaGreatDoorWrd19
import Derived.Test.YtcpdgnkhkdddhaaGreatDoorCards
import Derived.Test.YtcpdgnkhkdddhaaGreatDoorTie
import Derived.ProofKit
import Derived.OpenShut
import Derived.Lay
import Derived.SevenTiedAt
set_option maxRecDepth 100000
set_option linter.unusedVariables false
set_option linter.unusedSimpArgs false
namespace Go.Proofs.YtcpdgnkhkdddhaaGreatDoor
namespace Aw
open Go
theorem GL_ml (m : Int) (e1 e2 : AV) : GL m e1 e2 1 = some [.int .i64 m] := rfl
theorem GL_gs (m : Int) {e1 e2 : AV} (h1 : ErrAV e1) (h2 : ErrAV e2) : GS (GL m e1 e2) := ⟨rfl, by
    rcases h1 with rfl | ⟨te, rfl⟩
    · exact .inl rfl
    · exact .inr ⟨te, rfl⟩, by
    rcases h2 with rfl | ⟨te, rfl⟩
    · exact .inl rfl
    · exact .inr ⟨te, rfl⟩⟩
theorem Goes.calls {P : Program} {f : FuncId} {fn : Func} {c : Go.Code} {vs : Array Value} {w : World} {R : Ending → World → Prop} (h : Goes P f vs w R) (hf : P.funcs[f]? = some fn) (hb : fn.body = some c) (hname : (fn.name == "runtime.NumGoroutine") = false) : Calls P f vs w R := by
  rcases h with ⟨_, h⟩ | ⟨v, w', h, _⟩
  · exact h
  · have hno : ¬ fn.name = "runtime.NumGoroutine" := by simpa using hname
    have : (callFunc f vs).run P w = .ok (.enter f vs) w := by simp [callFunc, hf, hno, hb]
    rw [this] at h
    cases h
theorem GL_as (m : Int) (e1 e2 : AV) : GAs (GL m e1 e2) := rfl
end Aw
open Go Go.ChangeShapes Go.WideShapes Go.ChangeAt Go.RowKit Go.ChangeMaps

theorem laidOut : laidOutB Tryz.prog = true := by kernel_rfl
theorem own : ownKnob Tryz.prog.godebug = none := by kernel_rfl
theorem lifted (os : Os) (started : os.Started) (H : Type) (enc : TypeId × Value → H) :
    ReturnsInHanded {} Tryz.checked os 6 .any (fun w args => (Rows.writeReadsSpec.pre enc Tryz.prog Tryz.f6 Rows.writeReadsRow.domain false w args ∧ laidMetH Tryz.prog Rows.writeReadsRow.laid w) ∧ sizedMet enc Tryz.prog Tryz.f6 (OpenSpec.ofChange Rows.writeReadsSpec) false w args)
      (Rows.writeReadsSpec.post enc Tryz.prog Tryz.f6 false true false false) := by
  refine Aw.returns_and_shaped (C := Tryz.checked) (X := fun w _ => laidMetH Tryz.prog Rows.writeReadsRow.laid w) (fun _ _ _ hh h => h.of_heap hh) own started (by kernel_rfl) Tryz.func6
    (ChangeSpec.witness_shaped (enc := enc) (C := Tryz.checked) (os := os) (X := fun w _ => laidMetH Tryz.prog Rows.writeReadsRow.laid w) false (Aw.wit os Rows.writeReadsRow.laid) #[.int .i64 0, .bool false, .slice none 0 0] 8 (Aw.wit_os _ _)
      (World.shaped_of_ZipB (by kernel_rfl) (by kernel_rfl)) (by kernel_rfl) (by kernel_rfl) (by kernel_rfl)
      (Aw.wit_met _ (by kernel_rfl) (by kernel_rfl) (by kernel_rfl))) ?_
  intro W base args ds gs before hval0 hW hc _ hL hsh
  have hval : ∀ (j : Nat) t v, Tryz.f6.params[j]? = some t → args[j]? = some v → Value.okWide Tryz.prog W .any base t v := hval0
  have hW' := hW
  obtain ⟨p, q, hA0, hV, rfl, _, _⟩ := hW
  have hA : DataW.TrodAll enc Tryz.prog W 0 (fun _ => true) true Tryz.f6.params.toList args.toList ds p := hA0
  rw [Tryz.params6] at hA hval
  obtain ⟨v0, v1, v2, d0, d1, d2, p0, p1, p2, hargs, rfl, rfl, h0, h1, h2⟩ := trodAll_three hA
  obtain ⟨rfl, rfl⟩ := trodVars_none hV
  subst hargs
  have hlt := hA.lt
  obtain ⟨rows, rfl, rfl, rfl, wrows⟩ := open_int Tryz.underlying3 (hval 0 3 v0 rfl rfl) h0
  obtain ⟨goal, rfl, rfl, rfl⟩ := open_bool Tryz.underlying4 (hval 1 4 v1 rfl rfl) h1
  obtain ⟨l, hrel, hsz, hint⟩ := Aw.open_opCs (hval 2 85 v2 rfl rfl) h2
  obtain ⟨m, e1, e2, he1, he2, hgood⟩ := Aw.good_enter (laid := Rows.writeReadsRow.laid) hsh hL (.tail _ (.tail _ (.head _)))
    ⟨_, _, .tail _ (.tail _ (.tail _ (.tail _ (.tail _ (.tail _ (.head _)))))), rfl⟩ ⟨_, _, .tail _ (.tail _ (.tail _ (.tail _ (.tail _ (.head _))))), rfl⟩ (.tail _ (.tail _ (.tail _ (.tail _ (.head _)))))
  simp only [List.append_nil] at hW'
  refine (((Aw.lawReads_ok (Aw.GL_ml m e1 e2) (Aw.GL_gs m he1 he2) (Aw.GL_as m e1 e2) rows goal l hsz hint Aw.St.emp).out W #[.int .i64 rows, .bool goal, v2] (Aw.YOk.none rfl _ _) hgood (by simp only [Aw.RelL]; exact ⟨_, _, rfl, by simp only [Aw.Rel], _, _, rfl, by simp only [Aw.Rel], _, _, rfl, hrel, rfl⟩)).calls Tryz.func6 rfl (by decide +kernel)).mono fun e W' ⟨o, S', ho, hg', hadv, e1, e2⟩ => ?_
  subst e1; subst e2
  cases e with
  | returned v =>
    simp only [Aw.OutRel, Aw.Rel] at ho
    subst ho
    have hb := Aw.Adv.below hadv
    exact ⟨_, rfl, _, _, _, [], _, [], hW', trodAll_mk1 (shut_bool Tryz.underlying4 _), trodAll_mk3 (shut_int Tryz.underlying3 wrows) (shut_bool Tryz.underlying4 goal) (Below.trod laidOut (by kernel_rfl) (of_decide_eq_true (by kernel_rfl)) h2 hb (fun x hx => hlt x (by simpa using hx))), rfl, hb.frame _, fun h => by cases h⟩
  | _ => exact ho.elim

theorem holds : Rows.WriteReadsSaid :=
  OpenClaim.holds_of_wide 6 Tryz.f6 rfl rfl rfl rfl rfl rfl rfl ⟨rfl, rfl, rfl, rfl, rfl⟩ rfl rfl rfl rfl rfl (by kernel_rfl) Tryz.func6 (by kernel_rfl)
    (of_decide_eq_true (by kernel_rfl)) (by unfold Func.isWrapper; first | (rw [if_pos (by decide +kernel)]; kernel_rfl) | (rw [if_neg (by decide +kernel)]; exact ⟨rfl, rfl⟩))
    (fun os started H enc _ => lifted os started H enc)
theorem card_holds : Rows.WriteReadsCardSaid :=
  Claim7.holds_tied_plain_at .later [] [.data, .data, .data, .data, .handle, .sentinel, .sentinel, .pinned] true (true, "eb9b3500540eedfc9701de1939ade082c8bc645db8c5aff98fbf398531b91fa4") true holds (fun _ h => by cases h) (by kernel_rfl) (fun _ h => by cases h) writeReads_row_tie rfl ⟨rfl, rfl⟩ (by kernel_rfl) rfl
    (fun f fn hf hfn => by
      obtain rfl : f = 6 := Option.some.inj ((show Tryz.prog.funcNamed "hallmark/hallmarklaw16.WriteReads" = some 6 by kernel_rfl).symm.trans hf) |>.symm
      obtain rfl : fn = Tryz.f6 := (Option.some.inj (Tryz.func6.symm.trans hfn)).symm
      exact ⟨by kernel_rfl, fun j t ht => by
        rw [Tryz.params6] at ht
        have hm : t ∈ [3, 4, 85] := by simpa using Array.mem_of_getElem? ht
        have hall : ([3, 4, 85].all fun u => !Tryz.prog.wantsStandIn u) = true := by kernel_rfl
        exact (show Tryz.prog.wantsStandIn t = false by simpa using List.all_eq_true.1 hall t hm)⟩)
    (by kernel_rfl)
#print axioms card_holds
end Go.Proofs.YtcpdgnkhkdddhaaGreatDoor

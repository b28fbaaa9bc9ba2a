/-
  The entry of a law's walk: what the row lists of the program's variables, in the abstract walk's words; the wrap with both the listed variables and the world's shape. No condition.
-/
import Derived.Test.YtikkoaoibomofaaGreatDoorAwP2
import Derived.Lib.LaidU8
import Derived.Shelf.Vars
import Derived.Handed
import Derived.ChangeAt
set_option maxRecDepth 100000
set_option linter.unusedVariables false
set_option linter.unusedSimpArgs false
namespace Go.Proofs.YtikkoaoibomofaaGreatDoor.Aw
open Go Go.RowKit

section
variable {H : Type} {enc : TypeId × Value → H}
theorem returns_and_shaped {a : Assume} {C : Checked} {os : Os} {f : FuncId} {fn : Func} {s : ChangeSpec} {conds : List PathCond} {apart fresh handsOn again : Bool} {X : World → Array Value → Prop}
    (hX : ∀ (w w' : World) (args : Array Value), w.heap = w'.heap → X w args → X w' args)
    (own : ownKnob C.prog.godebug = none) (started : os.Started) (noInit : C.prog.inits.idxOf? f = none) (hfn : C.prog.funcs[f]? = some fn)
    (witness : ∃ (w : World) (tape : Tape) (i : Input), w.os = os ∧ (w.forCall tape i).Shaped C.prog ∧ i.vars = [] ∧ Input.okWide C.prog (w.forCall tape i) .any w.heap.size f i ∧
      ((s.pre enc C.prog fn conds apart (w.forCall tape i).memory i.args ∧ X (w.forCall tape i).memory i.args) ∧ sizedMet enc C.prog fn (OpenSpec.ofChange s) apart (w.forCall tape i).memory i.args) ∧ a.holds C.prog (lone (Frame.enter C.prog f i.args .normal) [] (w.forCall tape i)))
    (contract : ∀ (W : World) (base : Nat) (args : Array Value) (ds gs : List (DataW H)) (before : List MemPlace),
      (∀ (j : Nat) t v, fn.params[j]? = some t → args[j]? = some v → Value.okWide C.prog W .any base t v) →
      DataW.Whole enc C.prog fn.params.toList s.vars apart W args.toList ds gs before →
      conds.all (PathCond.test C.prog ⟨fn.params.toList, ds, s.plain.varTypes C.prog, gs⟩) = true →
      (DataW.weightsEach C.prog (fn.params.toList ++ s.plain.varTypes C.prog) (ds ++ gs)).all (· ≤ reachBytes) = true → X W args → W.ShapedOpen C.prog →
      Calls C.prog f args W fun e W' => ∃ v, e = .returned v ∧ s.post enc C.prog fn apart fresh handsOn again W args v W') :
    ReturnsInHanded a C os f .any (fun w args => (s.pre enc C.prog fn conds apart w args ∧ X w args) ∧ sizedMet enc C.prog fn (OpenSpec.ofChange s) apart w args) (s.post enc C.prog fn apart fresh handsOn again) := by
  refine returnsInHanded_of_calls own started noInit witness ?_
  intro w tape i _ hsh _ hok hpre hholds
  obtain ⟨_, _, _, fn', hfn', _, _, _, _, hval⟩ := hok
  have e : fn' = fn := Option.some.inj (hfn'.symm.trans hfn)
  subst e
  obtain ⟨⟨⟨ds, gs, before, hw, hc⟩, hx⟩, hz⟩ := hpre
  have hw' := DataW.Whole.of_heap (w' := w.forCall tape i) (by rfl) hw
  refine (contract (w.forCall tape i) w.heap.size i.args ds gs before hval hw' hc (hz.weights hw) (hX _ _ _ (by rfl) hx) hsh).mono fun e W' ⟨v, he, hp⟩ => ?_
  subst he
  exact ChangeSpec.post_blind hp
end

/-- The variables that the walk reads: strconv's powers of ten, and bytealg's MaxLen, whatever number that holds. -/
noncomputable def GL (m : Int) : Nat → Option (List AV) := fun g =>
  if g = 3 then some (Lib.pow10Tab.map (AV.int .u64)) else if g = 0 then some [.int .i64 m] else none
theorem GL_10 (m : Int) : G10 (GL m) := rfl
theorem GL_ml (m : Int) : GL m 0 = some [.int .i64 m] := rfl
theorem RelAt_ints {w : World} {rd : Nat → Nat → Prop} {b : Nat} {k : IntKind} : ∀ (l : List Int) (off : Nat), (∀ i n, l[i]? = some n → rd b (off + i) ∧ w.cell? ⟨b, off + i, none⟩ = some (.int k n)) → RelAt w rd b off (l.map (AV.int k))
  | [], off, _ => by simp only [List.map_nil, RelAt]
  | n :: l, off, h => by
    simp only [List.map_cons, RelAt]
    refine ⟨⟨.int k n, ⟨(h 0 n rfl).1, (h 0 n rfl).2, rfl⟩, by simp only [Rel]⟩, RelAt_ints l (off + 1) fun i x hx => ?_⟩
    have := h (i + 1) x (by simpa using hx)
    rwa [show off + (i + 1) = off + 1 + i from by omega] at this
theorem good_enter {W : World} {laid : List (String × DataW Unit)} (hsh : W.ShapedOpen P) (hL : laidMet P laid W) (hm : ("internal/strconv.uint64pow10", Lib.tabData .u64 Lib.pow10Tab) ∈ laid) :
    ∃ m, Good (C (GL m)) W St.emp := by
  obtain ⟨m, hcell⟩ := cell_of_shapedOpen_int (P := P) (g := 0) (t := 3) (zero := #[.int .i64 0]) hsh (of_decide_eq_true (by kernel_rfl)) (by kernel_rfl) rfl (by kernel_rfl) (by kernel_rfl) Tryz.underlying3
  obtain ⟨cs0, hh0, hs0, _⟩ := hsh.1 0 #[.int .i64 0] 3 (of_decide_eq_true (by kernel_rfl)) (by kernel_rfl)
  obtain ⟨g', t, cs, fuel, p, hg, hty, hvar, hd⟩ := Lib.laidMet.reads hL hm
  obtain rfl := Option.some.inj ((show P.globalNamed "internal/strconv.uint64pow10" = some 3 by kernel_rfl).symm.trans hg)
  obtain rfl := Option.some.inj ((show (P.globals[3]?).map (·.type) = some 127 by kernel_rfl).symm.trans hty)
  have hcs := Lib.cells_of_tab (n := 20) (e := 120) Tryz.underlying127 Tryz.underlying120 (by kernel_rfl) (by kernel_rfl) hd
  refine ⟨m, fun b o h => by simp [St.emp] at h, fun g xs hx => ⟨rfl, ?_⟩⟩
  change GL m g = some xs at hx
  unfold GL at hx
  split at hx
  · rename_i hg
    subst hg
    cases hx
    have hb : ∃ e f, W.heap[3]? = some (.cells cs e f) := by
      unfold World.var? at hvar
      rw [hg] at hvar
      simp only [Option.bind_some] at hvar
      split at hvar
      · rename_i cs' e f hw; cases hvar; exact ⟨e, f, hw⟩
      · cases hvar
    obtain ⟨e, f, hb⟩ := hb
    refine ⟨lt_of_block hb, RelAt_ints _ 0 fun i n hi => ⟨trivial, ?_⟩, e, ?_⟩
    · rw [Nat.zero_add, World.var?_cell hg hvar i, ← Array.getElem?_toList, hcs]
      simp [hi]
    · have : cs.size = 20 := by rw [← Array.length_toList, hcs]; rfl
      simp only [World.shape?, hb, this]
      rfl
  · split at hx
    · rename_i hg1
      subst hg1
      cases hx
      refine ⟨lt_of_block hh0, ?_, 3, ?_⟩
      · exact RelAt_ints [m] 0 fun i n hi => ⟨trivial, by
          obtain rfl : i = 0 := by cases i <;> simp_all
          simp at hi; subst hi; exact hcell⟩
      · simp only [World.shape?, hh0]
        have : cs0.size = 1 := hs0
        rw [this]; rfl
    · cases hx
end Go.Proofs.YtikkoaoibomofaaGreatDoor.Aw

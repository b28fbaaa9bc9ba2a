/-
  The entry of a law's walk where the program reads errors' variables: what the row lists, in the abstract walk's words; a world that meets the row's condition. No condition.
  The entry of a law's walk where it is handed lists: what an argument reads as, in the abstract walk's words. Steps. No condition.
  The statement ProofBack: for every list of steps, hallmarklaw8.ProofBack returns true, and the list reads as it did. Its condition is the row's own: the variables that the row lists hold what it lists.
-/
import Derived.Test.YtdlgedpmbeafdaaGreatDoorPab3
import Derived.Lib.LaidU8
import Derived.Lib.AppendIntMem
import Derived.Shelf.Vars
import Derived.Handed
import Derived.ChangeAt
import Derived.Lay
import Derived.LaidHandle
import Derived.LaidSub
import Derived.Stop.Joined
import Derived.Test.YtdlgedpmbeafdaaGreatDoorPab15
import Derived.ProofKit
import Derived.OpenShut
import Derived.Test.YtdlgedpmbeafdaaGreatDoorCards
import Derived.Test.YtdlgedpmbeafdaaGreatDoorTie
import Derived.SevenTiedAt
set_option maxRecDepth 100000
set_option linter.unusedVariables false
set_option linter.unusedSimpArgs false
namespace Go.Proofs.YtdlgedpmbeafdaaGreatDoor.Aw
open Go Go.RowKit

section
variable {H : Type} {enc : TypeId × Value → H}
theorem returns_and_shaped {a : Assume} {C : Checked} {os : Os} {f : FuncId} {fn : Func} {s : ChangeSpec} {conds : List PathCond} {apart fresh handsOn again : Bool} {X : World → Array Value → Prop}
    (hX : ∀ (w w' : World) (args : Array Value), w.heap = w'.heap → X w args → X w' args)
    (own : ownKnob C.prog.godebug = none) (started : os.Started) (noInit : C.prog.inits.idxOf? f = none) (hfn : C.prog.funcs[f]? = some fn)
    (witness : ∃ (w : World) (tape : Tape) (i : Input), w.os = os ∧ (w.forCall tape i).Shaped C.prog ∧ i.vars = [] ∧ Input.okWide C.prog (w.forCall tape i) .any w.heap.size f i ∧
      ((s.pre enc C.prog fn conds apart (w.forCall tape i).memory i.args ∧ X (w.forCall tape i).memory i.args) ∧ sizedMet enc C.prog fn (OpenSpec.ofChange s) apart (w.forCall tape i).memory i.args) ∧ a.holds C.prog (lone (Frame.enter C.prog f i.args .normal) [] (w.forCall tape i)))
    (contract : ∀ (W : World) (base : Nat) (args : Array Value) (ds gs : List (DataW H)) (before : List MemPlace),
      (∀ (j : Nat) t v, fn.params[j]? = some t → args[j]? = some v → Value.okWide C.prog W .any base t v) →
      DataW.Whole enc C.prog fn.params.toList s.vars apart W args.toList ds gs before →
      conds.all (PathCond.test C.prog ⟨fn.params.toList, ds, s.plain.varTypes C.prog, gs⟩) = true →
      (DataW.weightsEach C.prog (fn.params.toList ++ s.plain.varTypes C.prog) (ds ++ gs)).all (· ≤ reachBytes) = true → X W args → W.ShapedOpen C.prog →
      Calls C.prog f args W fun e W' => ∃ v, e = .returned v ∧ s.post enc C.prog fn apart fresh handsOn again W args v W') :
    ReturnsInHanded a C os f .any (fun w args => (s.pre enc C.prog fn conds apart w args ∧ X w args) ∧ sizedMet enc C.prog fn (OpenSpec.ofChange s) apart w args) (s.post enc C.prog fn apart fresh handsOn again) := by
  refine returnsInHanded_of_calls own started noInit witness ?_
  intro w tape i _ hsh _ hok hpre hholds
  obtain ⟨_, _, _, fn', hfn', _, _, _, _, hval⟩ := hok
  have e : fn' = fn := Option.some.inj (hfn'.symm.trans hfn)
  subst e
  obtain ⟨⟨⟨ds, gs, before, hw, hc⟩, hx⟩, hz⟩ := hpre
  have hw' := DataW.Whole.of_heap (w' := w.forCall tape i) (by rfl) hw
  refine (contract (w.forCall tape i) w.heap.size i.args ds gs before hval hw' hc (hz.weights hw) (hX _ _ _ (by rfl) hx) hsh).mono fun e W' ⟨v, he, hp⟩ => ?_
  subst he
  exact ChangeSpec.post_blind hp
end

/-- An interface's cell holds nil, or anything of a type. -/
def ErrAV (e : AV) : Prop := e = .nili ∨ ∃ te, e = .ifc te .top
/-- The variables that the walk reads. -/
noncomputable def GL (m : Int) (e1 e2 : AV) : Nat → Option (List AV) := fun g =>
  if g = 4 then some (Lib.pow10Tab.map (AV.int .u64)) else if g = 1 then some [.int .i64 m] else if g = 5 then some [e1] else if g = 6 then some [e2]
  else if g = 0 then some [.raw (.iface 126 (.agg #[.pointer (some ⟨9, 25, none⟩)]))] else none
theorem RelAt_ints {w : World} {rd : Nat → Nat → Prop} {b : Nat} {k : IntKind} : ∀ (l : List Int) (off : Nat), (∀ i n, l[i]? = some n → rd b (off + i) ∧ w.cell? ⟨b, off + i, none⟩ = some (.int k n)) → RelAt w rd b off (l.map (AV.int k))
  | [], off, _ => by simp only [List.map_nil, RelAt]
  | n :: l, off, h => by
    simp only [List.map_cons, RelAt]
    refine ⟨⟨.int k n, ⟨(h 0 n rfl).1, (h 0 n rfl).2, rfl⟩, by simp only [Rel]⟩, RelAt_ints l (off + 1) fun i x hx => ?_⟩
    have := h (i + 1) x (by simpa using hx)
    rwa [show off + (i + 1) = off + 1 + i from by omega] at this
theorem cs_of_iface {H : Type} {enc : TypeId × Value → H} {P : Program} {w : World} {base : Nat} {sp : Nat → Bool} {fuel : Nat} {t : TypeId} {ms : Array (String × TypeId)} {cs : List Value} {n : String} {d : DataW H} {p : List MemPlace}
    (ht : P.underlying t = some (.interface ms)) (h : DataW.trod enc P w base sp false fuel t cs = some (.iface n d, p)) : ∃ u v, cs = [.iface u v] := by
  cases fuel with
  | zero => unfold DataW.trod at h; cases h
  | succ fuel =>
    unfold DataW.trod at h
    rw [ht] at h
    split at h <;> first | (exact ⟨_, _, rfl⟩) | (simp_all; done) | (rename_i hh; cases hh) | skip
theorem et_n : Tryz.prog.globalNamed "errors.errorType" = some 0 := by kernel_rfl
theorem rt_n : (Tryz.prog.cutTypes.find? (·.1 == "internal/reflectlite.rtype")).map (·.2) = some 126 := by kernel_rfl
theorem ty_n : Tryz.prog.types.size = 261 := by kernel_rfl
theorem er_n : ((List.range 261).filter fun t => Tryz.prog.rowNamed t [101, 114, 114, 111, 114]) = [25] := by kernel_rfl
theorem hd_n : typeHandle Tryz.prog 25 = .pointer (some ⟨9, 25, none⟩) := by kernel_rfl
theorem under_err : ∃ ms, Tryz.prog.underlying 25 = some (.interface ms) := ⟨_, Tryz.underlying25⟩
theorem var_block {P : Program} {w : World} {n : String} {g : Nat} {cs : Array Value} (hg : P.globalNamed n = some g) (hv : w.var? P n = some cs) : ∃ e f, w.heap[g]? = some (.cells cs e f) := by
  unfold World.var? at hv
  rw [hg] at hv
  simp only [Option.bind_some] at hv
  split at hv
  · rename_i cs' e f hw; cases hv; exact ⟨e, f, hw⟩
  · cases hv
/-- A variable of one cell. -/
theorem glob_one {w : World} {g : Nat} {v : Value} {x : AV} {e : TypeId} {f : Nat × Nat} (hb : w.heap[g]? = some (.cells #[v] e f)) (hr : ∀ rd, Rel w rd x v) (h1 : v.oneCell' = true) :
    St.emp g = none ∧ g < w.heap.size ∧ RelAt w (rdOf St.emp) g 0 [x] ∧ ∃ e, w.shape? g = some (e, [x].length) := by
  refine ⟨rfl, lt_of_block hb, ?_, e, ?_⟩
  · simp only [RelAt]
    exact ⟨⟨v, ⟨trivial, by simp [World.cell?, hb], h1⟩, hr _⟩, trivial⟩
  · simp only [World.shape?, hb]; rfl
theorem iface_block {W : World} {laid : List (String × DataW Unit)} (hL : laidMet Tryz.prog laid W) {n nm : String} {d : DataW Unit} {g : Nat} (hm : (n, DataW.iface nm d) ∈ laid) (hg : Tryz.prog.globalNamed n = some g) (ht : (Tryz.prog.globals[g]?).map (·.type) = some 25) :
    ∃ te pe e f, W.heap[g]? = some (.cells #[.iface te pe] e f) := by
  obtain ⟨g', t, cs, fuel, p, hg', hty, hvar, hd⟩ := Lib.laidMet.reads hL hm
  obtain rfl := Option.some.inj (hg.symm.trans hg')
  obtain rfl := Option.some.inj (ht.symm.trans hty)
  obtain ⟨ms, hu⟩ := under_err
  obtain ⟨te, pe, hcs⟩ := cs_of_iface hu hd
  have : cs = #[.iface te pe] := by cases cs; simpa using hcs
  subst this
  obtain ⟨e, f, hb⟩ := var_block hg hvar
  exact ⟨te, pe, e, f, hb⟩
theorem handle_block {W : World} {laid : List (String × DataW Unit)} (h : handlesMet Tryz.prog laid W) (hm : ("errors.errorType", DataW.iface "internal/reflectlite.rtype" (.agg [.ptr (.lit (.string [101, 114, 114, 111, 114]))])) ∈ laid) :
    ∃ e f, W.heap[0]? = some (.cells #[.iface 126 (.agg #[.pointer (some ⟨9, 25, none⟩)])] e f) := by
  obtain ⟨name, u, ty, e1, e2, e3, e4, e5⟩ := h _ hm
  have en : name = [101, 114, 114, 111, 114] := (Option.some.inj e1).symm
  subst en
  obtain rfl := Option.some.inj (rt_n.symm.trans e2)
  have hm : ty ∈ (List.range 261).filter fun t => Tryz.prog.rowNamed t [101, 114, 114, 111, 114] := List.mem_filter.2 ⟨List.mem_range.2 (by rw [← ty_n]; exact e3), e4⟩
  rw [er_n] at hm
  obtain rfl := List.mem_singleton.1 hm
  rw [hd_n] at e5
  exact var_block et_n e5
theorem good_enter {W : World} {laid : List (String × DataW Unit)} (hsh : W.ShapedOpen Tryz.prog) (hL : laidMetH Tryz.prog laid W) (hm : ("internal/strconv.uint64pow10", Lib.tabData .u64 Lib.pow10Tab) ∈ laid)
    (hs : ∃ nm d, ("strconv.ErrSyntax", DataW.iface nm d) ∈ laid ∧ (DataW.iface nm d).handleName? = none) (hr : ∃ nm d, ("strconv.ErrRange", DataW.iface nm d) ∈ laid ∧ (DataW.iface nm d).handleName? = none)
    (he : ("errors.errorType", DataW.iface "internal/reflectlite.rtype" (.agg [.ptr (.lit (.string [101, 114, 114, 111, 114]))])) ∈ laid) :
    ∃ m e1 e2, ErrAV e1 ∧ ErrAV e2 ∧ Good ⟨Tt, GL m e1 e2, Et, none, false⟩ W St.emp := by
  obtain ⟨hL1, hH⟩ := laidMetH_iff.1 hL
  obtain ⟨m, hcell⟩ := cell_of_shapedOpen_int (P := Tryz.prog) (g := 1) (t := 3) (zero := #[.int .i64 0]) hsh (of_decide_eq_true (by kernel_rfl)) (by kernel_rfl) rfl (by kernel_rfl) (by kernel_rfl) Tryz.underlying3
  obtain ⟨cs0, hh0, hs0, _⟩ := hsh.1 1 #[.int .i64 0] 3 (of_decide_eq_true (by kernel_rfl)) (by kernel_rfl)
  obtain ⟨g', t, cs, fuel, p, hg, hty, hvar, hd⟩ := Lib.laidMet.reads hL1 (List.mem_filter.2 ⟨hm, rfl⟩)
  obtain rfl := Option.some.inj ((show Tryz.prog.globalNamed "internal/strconv.uint64pow10" = some 4 by kernel_rfl).symm.trans hg)
  obtain rfl := Option.some.inj ((show (Tryz.prog.globals[4]?).map (·.type) = some 200 by kernel_rfl).symm.trans hty)
  have hcs := Lib.cells_of_tab (n := 20) (e := 182) Tryz.underlying200 Tryz.underlying182 (by kernel_rfl) (by kernel_rfl) hd
  obtain ⟨nm1, d1, hs1, hs2⟩ := hs
  obtain ⟨nm2, d2, hr1, hr2⟩ := hr
  obtain ⟨te1, pe1, ee1, ff1, hb1⟩ := iface_block (g := 5) hL1 (List.mem_filter.2 ⟨hs1, by rw [hs2]; rfl⟩) (by kernel_rfl) (by kernel_rfl)
  obtain ⟨te2, pe2, ee2, ff2, hb2⟩ := iface_block (g := 6) hL1 (List.mem_filter.2 ⟨hr1, by rw [hr2]; rfl⟩) (by kernel_rfl) (by kernel_rfl)
  obtain ⟨ee3, ff3, hb3⟩ := handle_block hH (List.mem_filter.2 ⟨he, rfl⟩)
  refine ⟨m, .ifc te1 .top, .ifc te2 .top, .inr ⟨_, rfl⟩, .inr ⟨_, rfl⟩, fun b o h => by simp [St.emp] at h, fun g xs hx => ?_⟩
  change GL m _ _ g = some xs at hx
  unfold GL at hx
  split at hx
  · rename_i hg
    subst hg
    cases hx
    obtain ⟨e, f, hb⟩ := var_block hg hvar
    refine ⟨rfl, lt_of_block hb, RelAt_ints _ 0 fun i n hi => ⟨trivial, ?_⟩, e, ?_⟩
    · rw [Nat.zero_add, World.var?_cell hg hvar i, ← Array.getElem?_toList, hcs]
      simp [hi]
    · have : cs.size = 20 := by rw [← Array.length_toList, hcs]; rfl
      simp only [World.shape?, hb, this]
      rfl
  split at hx
  · rename_i hg1
    subst hg1
    cases hx
    refine ⟨rfl, lt_of_block hh0, ?_, 3, ?_⟩
    · exact RelAt_ints [m] 0 fun i n hi => ⟨trivial, by
        obtain rfl : i = 0 := by cases i <;> simp_all
        simp at hi; subst hi; exact hcell⟩
    · simp only [World.shape?, hh0]
      have : cs0.size = 1 := hs0
      rw [this]; rfl
  split at hx
  · rename_i hg1
    subst hg1
    cases hx
    exact glob_one hb1 (fun rd => by simp only [Rel]; exact ⟨_, rfl, trivial⟩) rfl
  split at hx
  · rename_i hg1
    subst hg1
    cases hx
    exact glob_one hb2 (fun rd => by simp only [Rel]; exact ⟨_, rfl, trivial⟩) rfl
  split at hx
  · rename_i hg1
    subst hg1
    cases hx
    exact glob_one hb3 (fun rd => by simp only [Rel]) rfl
  · cases hx
/-- A world that meets such a condition: the settled one, the handle's cell laid, then the data. -/
noncomputable def witBase (os : Os) : World :=
  let w0 := World.holding Tryz.prog os ⟨#[], #[], []⟩
  { w0 with heap := w0.heap.modify 0 fun
      | .cells _ t frozen => .cells #[.iface 126 (.agg #[.pointer (some ⟨9, 25, none⟩)])] t frozen
      | o => o }
noncomputable def wit (os : Os) (laid : List (String × DataW Unit)) : World := (witBase os).layVars Tryz.prog (laid.filter fun x => x.2.handleName?.isNone)
theorem wit_os (os : Os) (laid : List (String × DataW Unit)) : (wit os laid).os = os := World.layVars_os _ _ _
theorem wit_met {os : Os} {laid : List (String × DataW Unit)} (args : Array Value)
    (hf : (witBase os).layFits Tryz.prog (laid.filter fun x => x.2.handleName?.isNone) [] = true)
    (hi : (witBase os).layIfaces Tryz.prog (laid.filter fun x => x.2.handleName?.isNone) (wit os laid) = true)
    (hh : (laid.filter fun x => x.2.handleName?.isSome).all (handleAtB Tryz.prog (wit os laid)) = true) :
    laidMetH Tryz.prog laid ((wit os laid).forCall (fun _ _ => 0) ⟨#[], args, []⟩).memory := by
  have e0 : ((wit os laid).forCall (fun _ _ => 0) ⟨#[], args, []⟩).memory.heap = (wit os laid).heap := by simp [World.memory, World.forCall, Input.heap]
  refine laidMetH.of_heap (w := wit os laid) e0.symm (laidMetH_of_parts ?_ hh)
  unfold wit at hi ⊢
  generalize (laid.filter fun x => x.2.handleName?.isNone) = l at *
  have e1 : (l.filter fun x => (l.map (·.1)).contains x.1) = l := List.filter_eq_self.2 fun x hx => List.contains_iff_mem.2 (List.mem_map.2 ⟨x, hx, rfl⟩)
  have e2 : (l.filter fun x => !(l.map (·.1)).contains x.1) = [] := List.filter_eq_nil_iff.2 fun x hx => by rw [List.contains_iff_mem.2 (List.mem_map.2 ⟨x, hx, rfl⟩)]; simp
  exact laidMet_layVars (w0 := witBase os) (l.map (·.1)) [] (by rw [e1]) (by rw [e1]; exact hf) (by rw [e1]; exact hi) (by rw [e2]; exact LaidIn.none)
end Go.Proofs.YtdlgedpmbeafdaaGreatDoor.Aw

set_option maxRecDepth 100000
set_option linter.unusedVariables false
set_option linter.unusedSimpArgs false
namespace Go.Proofs.YtdlgedpmbeafdaaGreatDoor.Aw
open Go Go.RowKit

section
variable {H : Type} {enc : TypeId × Value → H} {W : World}
/-- What reads at type t is a row of such values. -/
def Opens (enc : TypeId × Value → H) (W : World) (t : TypeId) {α : Type} (row : α → List AV) (Q : α → Prop) : Prop :=
  ∀ (fuel : Nat) (cs : List Value) (x : DataW H × List MemPlace), DataW.trod enc Tryz.prog W 0 (fun _ => true) true fuel t cs = some x → ∃ a : α, RelL W (rdOf St.emp) (row a) cs ∧ (∀ u ∈ cs, u.oneCell' = true) ∧ Q a
theorem opens_str : Opens enc W 9 (fun s : ByteArray => [.str s]) (fun s => s.size ≤ maxLen) := fun fuel cs x h => by
  obtain ⟨s, rfl, _, hs⟩ := DataW.trod_string Tryz.underlying9 h
  refine ⟨s, by simp only [RelL, Rel]; exact ⟨_, _, rfl, rfl, rfl⟩, fun u hu => ?_, hs⟩
  obtain rfl : u = .string s := by simpa using hu
  rfl
theorem opens_int : Opens enc W 3 (fun n : Int => [.int .i64 n]) okI := fun fuel cs x h => by
  obtain ⟨n, rfl, _, hw⟩ := DataW.trod_int Tryz.underlying3 h
  refine ⟨n, by simp only [RelL, Rel]; exact ⟨_, _, rfl, rfl, rfl⟩, fun u hu => ?_, ?_⟩
  · obtain rfl : u = .int .i64 n := by simpa using hu
    rfl
  · simp only [Lit.wf, Bool.and_eq_true, decide_eq_true_eq] at hw
    exact hw
theorem cells_at {k : Nat} {a : Addr} {cs : List Value} (h : W.cells? 0 a k = some cs) : cs.length = k ∧ ∀ j, j < k → W.cell? (a.add j) = cs[j]? := by
  unfold World.cells? at h
  rw [if_pos (Nat.zero_le _)] at h
  refine ⟨by simpa using mapM_some_length h, fun j hj => mapM_some_get h j j (by simp [hj])⟩
theorem exists_list {β : Type} {R : Nat → β → Prop} : ∀ n : Nat, (∀ i, i < n → ∃ b, R i b) → ∃ l : List β, l.length = n ∧ ∀ i b, l[i]? = some b → R i b
  | 0, _ => ⟨[], rfl, fun i b h => by simp at h⟩
  | n + 1, h => by
    obtain ⟨l, hl, hr⟩ := exists_list n fun i hi => h i (by omega)
    obtain ⟨b, hb⟩ := h n (by omega)
    refine ⟨l ++ [b], by simp [hl], fun i c hc => ?_⟩
    by_cases hi : i < l.length
    · rw [List.getElem?_append_left hi] at hc
      exact hr i c hc
    · rw [List.getElem?_append_right (by omega)] at hc
      have : i = n := by
        by_cases e : i - l.length = 0
        · omega
        · rw [List.getElem?_eq_none (by simp; omega)] at hc; cases hc
      subst this
      rw [hl, Nat.sub_self] at hc
      cases hc
      exact hb
theorem rows_of {α : Type} {row : α → List AV} {k b : Nat} : ∀ (L : List (α × List Value)) (off : Nat),
    (∀ i p, L[i]? = some p → (∀ j, j < k → W.cell? ⟨b, off + i * k + j, none⟩ = p.2[j]?) ∧ p.2.length = k ∧ (row p.1).length = k ∧ RelL W (rdOf St.emp) (row p.1) p.2 ∧ ∀ u ∈ p.2, u.oneCell' = true) →
    RelRows W (rdOf St.emp) k b off (L.map fun p => row p.1)
  | [], off, h => by simp [RelRows]
  | p :: L, off, h => by
    simp only [List.map_cons, RelRows]
    obtain ⟨h1, h2, h3, h4, h5⟩ := h 0 p rfl
    refine ⟨⟨h3, RelAt.of_cells h4 (fun i v hv => ?_) h5 fun i hi => trivial⟩, rows_of L (off + k) fun i q hq => ?_⟩
    · have hi : i < k := by
        rcases Nat.lt_or_ge i k with h | h
        · exact h
        · rw [List.getElem?_eq_none (by omega)] at hv; cases hv
      have := h1 i hi
      rw [hv] at this
      simpa using this
    · obtain ⟨g1, g2, g3, g4, g5⟩ := h (i + 1) q (by simpa using hq)
      refine ⟨fun j hj => ?_, g2, g3, g4, g5⟩
      have := g1 j hj
      rw [show off + (i + 1) * k + j = off + k + i * k + j by rw [Nat.succ_mul]; omega] at this
      exact this
theorem spot_none {a : Addr} {v : Value} (h : W.cell? a = some v) : a = ⟨a.block, a.off, none⟩ := by
  obtain ⟨b, off, sp⟩ := a
  unfold World.cell? at h
  dsimp only at h
  split at h
  · cases sp with
    | none => rfl
    | some s => simp at h
  · cases h
theorem opens_slice {t e : TypeId} {k : Nat} {α : Type} {row : α → List AV} {Q : α → Prop} (ht : Tryz.prog.underlying t = some (.slice e)) (hc : Tryz.prog.cellsOf e = k) (hk : 0 < k) (hrow : ∀ a, (row a).length = k) (h : Opens enc W e row Q) :
    Opens enc W t (fun l : List α => [.sl .any k (l.map row)]) (fun l => (∀ a ∈ l, Q a) ∧ l.length ≤ maxLen) := fun fuel cs x hx => by
  rcases DataW.trod_slice ht hx with ⟨rfl, _⟩ | ⟨a, len, cap, elems, rest, n, _, rfl, _, _, hlc, hcm, hel, helem, hsp, _⟩
  · refine ⟨[], ?_, fun u hu => ?_, by simp, by simp⟩
    · simp only [RelL, Rel]
      exact ⟨_, _, rfl, .inl ⟨rfl, rfl, .inl rfl⟩, rfl⟩
    · obtain rfl : u = .slice none 0 0 := by simpa using hu
      rfl
  · rw [hc] at helem hsp
    have hone : ∀ u ∈ [Value.slice (some a) len cap], u.oneCell' = true := fun u hu => by
      obtain rfl : u = .slice (some a) len cap := by simpa using hu
      rfl
    have hspot : 0 < cap → a = ⟨a.block, a.off, none⟩ := fun hcap => by
      have hfirst : ∃ cs y, W.cells? 0 (a.add 0) k = some cs ∧ DataW.trod enc Tryz.prog W 0 (fun _ => true) true n e cs = some y := by
        by_cases hl : 0 < len
        · have := helem 0 hl
          rw [List.getElem?_eq_getElem (by omega), Option.bind_eq_some_iff] at this
          obtain ⟨cs, h1, h2⟩ := this
          exact ⟨cs, _, by simpa using h1, h2⟩
        · obtain ⟨r1, r2⟩ := hsp rfl
          have := r2 0 (by omega)
          rw [List.getElem?_eq_getElem (by omega), Option.bind_eq_some_iff] at this
          obtain ⟨cs, h1, h2⟩ := this
          exact ⟨cs, _, by simpa [show len = 0 by omega] using h1, h2⟩
      obtain ⟨cs, y, h1, _⟩ := hfirst
      obtain ⟨c1, c2⟩ := cells_at h1
      have := c2 0 hk
      rw [List.getElem?_eq_getElem (by omega)] at this
      exact spot_none (by simpa [Addr.add] using this)
    by_cases hcap : cap = 0
    · have hlen : len = 0 := by omega
      subst hcap hlen
      refine ⟨[], ?_, hone, by simp, by simp⟩
      simp only [RelL, Rel]
      exact ⟨_, _, rfl, .inl ⟨rfl, rfl, .inr ⟨rfl, a, rfl⟩⟩, rfl⟩
    · have hs := hspot (by omega)
      obtain ⟨b, off, sp⟩ := a
      simp only [Addr.mk.injEq, true_and] at hs
      subst hs
      obtain ⟨L, hL, hR⟩ := exists_list (β := α × List Value) (R := fun i p => W.cells? 0 ((⟨b, off, none⟩ : Addr).add (i * k)) k = some p.2 ∧ RelL W (rdOf St.emp) (row p.1) p.2 ∧ (∀ u ∈ p.2, u.oneCell' = true) ∧ Q p.1) len fun i hi => by
        have := helem i hi
        rw [List.getElem?_eq_getElem (by omega), Option.bind_eq_some_iff] at this
        obtain ⟨cs, h1, h2⟩ := this
        obtain ⟨a, a1, a2, a3⟩ := h _ _ _ h2
        exact ⟨(a, cs), h1, a1, a2, a3⟩
      refine ⟨L.map (·.1), ?_, hone, ⟨fun x hx => ?_, by rw [List.length_map]; omega⟩⟩
      · simp only [RelL, Rel]
        refine ⟨_, _, rfl, .inr ⟨b, off, cap, by simp [hL], by simpa [hL] using hlc, hcm, trivial, ?_⟩, rfl⟩
        rw [List.map_map]
        refine rows_of L off fun i p hp => ?_
        obtain ⟨r1, r2, r3, r4⟩ := hR i p hp
        obtain ⟨c1, c2⟩ := cells_at r1
        refine ⟨fun j hj => ?_, c1, hrow _, r2, r3⟩
        have := c2 j hj
        rw [Addr.add_lit, Addr.add_lit] at this
        exact this
      · obtain ⟨p, hp, rfl⟩ := List.mem_map.1 hx
        obtain ⟨i, hi⟩ := List.getElem?_of_mem hp
        exact (hR i p hi).2.2.2
theorem opens_field {fs : Array Field} {n : Nat} {cs : List Value} {xs : List (DataW H × List MemPlace)} (hf : ∀ (i : Nat) (f : Field), fs[i]? = some f → DataW.trod enc Tryz.prog W 0 (fun _ => true) true n f.type ((cs.drop f.offset).take (Tryz.prog.cellsOf f.type)) = xs[i]?)
    (i : Nat) (f : Field) (hfi : fs[i]? = some f) (hi : i < xs.length) {k : Nat} (hk : Tryz.prog.cellsOf f.type = k) {α : Type} {row : α → List AV} {Q : α → Prop} (ho : Opens enc W f.type row Q) :
    ∃ a, RelL W (rdOf St.emp) (row a) ((cs.drop f.offset).take k) ∧ (∀ u ∈ (cs.drop f.offset).take k, u.oneCell' = true) ∧ Q a := by
  have h := hf i f hfi
  rw [hk, List.getElem?_eq_getElem hi] at h
  exact ho _ _ _ h
theorem opens_strs : Opens enc W 32 (fun l : List ByteArray => [.sl .any 1 (rowsS l)]) (fun l => (∀ s ∈ l, s.size ≤ maxLen) ∧ l.length ≤ maxLen) :=
  opens_slice Tryz.underlying32 (by kernel_rfl) (by decide) (fun _ => rfl) opens_str
theorem opens_ints : Opens enc W 38 (fun l : List Int => [.sl .any 1 (rowsI l)]) (fun l => (∀ s ∈ l, okI s) ∧ l.length ≤ maxLen) :=
  opens_slice Tryz.underlying38 (by kernel_rfl) (by decide) (fun _ => rfl) opens_int
theorem opens_op : Opens enc W 59 (fun o : Int × ByteArray × Int => [.int .i64 o.1, .str o.2.1, .int .i64 o.2.2]) (fun o => okI o.2.2 ∧ o.2.1.size ≤ maxLen) := fun fuel cs x h => by
  obtain ⟨xs, n, _, _, hl, hxs, hf⟩ := DataW.trod_struct Tryz.underlying59 h
  have hl : cs.length = 3 := hl.trans (by kernel_rfl)
  have hxs : xs.length = 3 := hxs
  match cs, hl with
  | [c0, c1, c2], _ =>
    obtain ⟨a, a1, a2, a3⟩ := opens_field hf 0 _ rfl (by omega) (k := 1) (by kernel_rfl) opens_int
    obtain ⟨b, b1, b2, b3⟩ := opens_field hf 1 _ rfl (by omega) (k := 1) (by kernel_rfl) opens_str
    obtain ⟨c, c1, c2, c3⟩ := opens_field hf 2 _ rfl (by omega) (k := 1) (by kernel_rfl) opens_int
    refine ⟨(a, b, c), RelL.append a1 (RelL.append b1 c1), fun u hu => ?_, c3, b3⟩
    simp only [List.mem_cons, List.not_mem_nil, or_false] at hu
    rcases hu with rfl | rfl | rfl
    · exact a2 _ (List.mem_singleton.2 rfl)
    · exact b2 _ (List.mem_singleton.2 rfl)
    · exact c2 _ (List.mem_singleton.2 rfl)
theorem opens_piece : Opens enc W 57 (fun o : ByteArray × Int => [.str o.1, .int .i64 o.2]) (fun o => okI o.2 ∧ o.1.size ≤ maxLen) := fun fuel cs x h => by
  obtain ⟨xs, n, _, _, hl, hxs, hf⟩ := DataW.trod_struct Tryz.underlying57 h
  have hl : cs.length = 2 := hl.trans (by kernel_rfl)
  have hxs : xs.length = 2 := hxs
  match cs, hl with
  | [c0, c1], _ =>
    obtain ⟨b, b1, b2, b3⟩ := opens_field hf 0 _ rfl (by omega) (k := 1) (by kernel_rfl) opens_str
    obtain ⟨c, c1, c2, c3⟩ := opens_field hf 1 _ rfl (by omega) (k := 1) (by kernel_rfl) opens_int
    refine ⟨(b, c), RelL.append b1 c1, fun u hu => ?_, c3, b3⟩
    simp only [List.mem_cons, List.not_mem_nil, or_false] at hu
    rcases hu with rfl | rfl
    · exact b2 _ (List.mem_singleton.2 rfl)
    · exact c2 _ (List.mem_singleton.2 rfl)
theorem opens_ops : Opens enc W 34 (fun l : List (Int × ByteArray × Int) => [.sl .any 3 (rowsO l)]) (fun l => (∀ o ∈ l, okI o.2.2 ∧ o.2.1.size ≤ maxLen) ∧ l.length ≤ maxLen) :=
  opens_slice Tryz.underlying34 (by kernel_rfl) (by decide) (fun _ => rfl) opens_op
theorem opens_pieces : Opens enc W 35 (fun l : List (ByteArray × Int) => [.sl .any 2 (rowsP l)]) (fun l => (∀ o ∈ l, okI o.2 ∧ o.1.size ≤ maxLen) ∧ l.length ≤ maxLen) :=
  opens_slice Tryz.underlying35 (by kernel_rfl) (by decide) (fun _ => rfl) opens_piece
theorem opens_row : Opens enc W 37 (fun r : List (ByteArray × Int) × ByteArray => [.sl .any 2 (rowsP r.1), .str r.2]) (fun r => (∀ o ∈ r.1, okI o.2 ∧ o.1.size ≤ maxLen) ∧ r.2.size ≤ maxLen) := fun fuel cs x h => by
  obtain ⟨xs, n, _, _, hl, hxs, hf⟩ := DataW.trod_struct Tryz.underlying37 h
  have hl : cs.length = 2 := hl.trans (by kernel_rfl)
  have hxs : xs.length = 2 := hxs
  match cs, hl with
  | [c0, c1], _ =>
    obtain ⟨b, b1, b2, b3⟩ := opens_field hf 0 _ rfl (by omega) (k := 1) (by kernel_rfl) opens_pieces
    obtain ⟨c, c1, c2, c3⟩ := opens_field hf 1 _ rfl (by omega) (k := 1) (by kernel_rfl) opens_str
    refine ⟨(b, c), RelL.append b1 c1, fun u hu => ?_, b3.1, c3⟩
    simp only [List.mem_cons, List.not_mem_nil, or_false] at hu
    rcases hu with rfl | rfl
    · exact b2 _ (List.mem_singleton.2 rfl)
    · exact c2 _ (List.mem_singleton.2 rfl)
theorem opens_step : Opens enc W 40 stepR (fun v => SzStep v ∧ IntStep v) := fun fuel cs x h => by
  obtain ⟨xs, n, _, _, hl, hxs, hf⟩ := DataW.trod_struct Tryz.underlying40 h
  have hl : cs.length = 10 := hl.trans (by kernel_rfl)
  have hxs : xs.length = 9 := hxs
  have hmx : maxLen ≤ 9223372036854775807 := by decide
  match cs, hl with
  | [c0, c1, c2, c3, c4, c5, c6, c7, c8, c9], _ =>
    obtain ⟨z0, a1, a2, a3⟩ := opens_field hf 0 _ rfl (by omega) (k := 1) (by kernel_rfl) opens_int
    obtain ⟨z1, b1, b2, b3⟩ := opens_field hf 1 _ rfl (by omega) (k := 1) (by kernel_rfl) opens_str
    obtain ⟨z2, d1, d2, d3, _⟩ := opens_field hf 2 _ rfl (by omega) (k := 1) (by kernel_rfl) opens_ops
    obtain ⟨z3, e1, e2, e3, e4⟩ := opens_field hf 3 _ rfl (by omega) (k := 2) (by kernel_rfl) opens_row
    obtain ⟨z4, f1, f2, f3, f4⟩ := opens_field hf 4 _ rfl (by omega) (k := 1) (by kernel_rfl) opens_ints
    obtain ⟨z5, g1, g2, g3, _⟩ := opens_field hf 5 _ rfl (by omega) (k := 1) (by kernel_rfl) opens_strs
    obtain ⟨z6, i1, i2, i3⟩ := opens_field hf 6 _ rfl (by omega) (k := 1) (by kernel_rfl) opens_int
    obtain ⟨z7, j1, j2, j3⟩ := opens_field hf 7 _ rfl (by omega) (k := 1) (by kernel_rfl) opens_str
    obtain ⟨z8, k1, k2, k3⟩ := opens_field hf 8 _ rfl (by omega) (k := 1) (by kernel_rfl) opens_str
    refine ⟨⟨z0, z1, z2, z3.1, z3.2, z4, z5, z6, z7, z8⟩, RelL.append a1 (RelL.append b1 (RelL.append d1 (RelL.append e1 (RelL.append f1 (RelL.append g1 (RelL.append i1 (RelL.append j1 k1))))))), fun u hu => ?_,
      ⟨Nat.le_trans b3 hmx, fun o ho => Nat.le_trans (d3 o ho).2 hmx, fun p hp => Nat.le_trans (e3 p hp).2 hmx, Nat.le_trans e4 hmx, fun y hy => Nat.le_trans (g3 y hy) hmx, Nat.le_trans j3 hmx, Nat.le_trans k3 hmx, Nat.le_trans f4 hmx⟩, ⟨fun o ho => (d3 o ho).1, fun p hp => (e3 p hp).1, f3⟩⟩
    simp only [List.mem_cons, List.not_mem_nil, or_false] at hu
    rcases hu with rfl | rfl | rfl | rfl | rfl | rfl | rfl | rfl | rfl | rfl
    · exact a2 _ (List.mem_singleton.2 rfl)
    · exact b2 _ (List.mem_singleton.2 rfl)
    · exact d2 _ (List.mem_singleton.2 rfl)
    · exact e2 _ (List.mem_cons_self ..)
    · exact e2 _ (List.mem_cons_of_mem _ (List.mem_cons_self ..))
    · exact f2 _ (List.mem_singleton.2 rfl)
    · exact g2 _ (List.mem_singleton.2 rfl)
    · exact i2 _ (List.mem_singleton.2 rfl)
    · exact j2 _ (List.mem_singleton.2 rfl)
    · exact k2 _ (List.mem_singleton.2 rfl)
theorem opens_steps : Opens enc W 23 (fun l : List StepV => [.sl .any 10 (rowsT l)]) (fun l => (∀ v ∈ l, SzStep v ∧ IntStep v) ∧ l.length ≤ maxLen) :=
  opens_slice Tryz.underlying23 (by kernel_rfl) (by decide) (fun _ => rfl) opens_step
/-- An argument that is a list of steps. -/
theorem open_steps {b0 : Nat} {v : Value} {d : DataW H} {ps : List MemPlace} (hval : Value.okWide Tryz.prog W .any b0 23 v) (hd : DataW.Trod enc Tryz.prog W 0 (fun _ => true) true 23 v d ps) :
    ∃ l : List StepV, Rel W (rdOf St.emp) (.sl .any 10 (rowsT l)) v ∧ (∀ v ∈ l, SzStep v) ∧ ∀ v ∈ l, IntStep v := by
  obtain ⟨a, len, cap, rfl⟩ := Go.WideShapes.okWide_slice Tryz.underlying23 hval
  obtain ⟨fuel, hf⟩ := hd
  obtain ⟨l, h1, _, h3, _⟩ := opens_steps _ _ _ hf
  refine ⟨l, ?_, fun v hv => (h3 v hv).1, fun v hv => (h3 v hv).2⟩
  have e : (Value.slice a len cap).cells.toList = [Value.slice a len cap] := rfl
  rw [e] at h1
  simp only [RelL] at h1
  obtain ⟨u, us, h4, h5, _⟩ := h1
  obtain ⟨rfl, _⟩ := List.cons.inj h4
  exact h5
end
end Go.Proofs.YtdlgedpmbeafdaaGreatDoor.Aw

set_option maxRecDepth 100000
set_option linter.unusedVariables false
set_option linter.unusedSimpArgs false
namespace Go.Proofs.YtdlgedpmbeafdaaGreatDoor
namespace Aw
open Go
theorem GL_ml (m : Int) (e1 e2 : AV) : GL m e1 e2 1 = some [.int .i64 m] := rfl
theorem GL_gs (m : Int) {e1 e2 : AV} (h1 : ErrAV e1) (h2 : ErrAV e2) : GS (GL m e1 e2) := ⟨rfl, by
    rcases h1 with rfl | ⟨te, rfl⟩
    · exact .inl rfl
    · exact .inr ⟨te, rfl⟩, by
    rcases h2 with rfl | ⟨te, rfl⟩
    · exact .inl rfl
    · exact .inr ⟨te, rfl⟩⟩
theorem Goes.calls {P : Program} {f : FuncId} {fn : Func} {c : Go.Code} {vs : Array Value} {w : World} {R : Ending → World → Prop} (h : Goes P f vs w R) (hf : P.funcs[f]? = some fn) (hb : fn.body = some c) (hname : (fn.name == "runtime.NumGoroutine") = false) : Calls P f vs w R := by
  rcases h with ⟨_, h⟩ | ⟨v, w', h, _⟩
  · exact h
  · have hno : ¬ fn.name = "runtime.NumGoroutine" := by simpa using hname
    have : (callFunc f vs).run P w = .ok (.enter f vs) w := by simp [callFunc, hf, hno, hb]
    rw [this] at h
    cases h
theorem GL_as (m : Int) (e1 e2 : AV) : GAs (GL m e1 e2) := rfl
end Aw
open Go Go.ChangeShapes Go.WideShapes Go.ChangeAt Go.RowKit Go.ChangeMaps

theorem laidOut : laidOutB Tryz.prog = true := by kernel_rfl
theorem own : ownKnob Tryz.prog.godebug = none := by kernel_rfl
theorem lifted (os : Os) (started : os.Started) (H : Type) (enc : TypeId × Value → H) :
    ReturnsInHanded {} Tryz.checked os 4 .any (fun w args => (Rows.proofBackSpec.pre enc Tryz.prog Tryz.f4 Rows.proofBackRow.domain false w args ∧ laidMetH Tryz.prog Rows.proofBackRow.laid w) ∧ sizedMet enc Tryz.prog Tryz.f4 (OpenSpec.ofChange Rows.proofBackSpec) false w args)
      (Rows.proofBackSpec.post enc Tryz.prog Tryz.f4 false true false false) := by
  refine Aw.returns_and_shaped (C := Tryz.checked) (X := fun w _ => laidMetH Tryz.prog Rows.proofBackRow.laid w) (fun _ _ _ hh h => h.of_heap hh) own started (by kernel_rfl) Tryz.func4
    (ChangeSpec.witness_shaped (enc := enc) (C := Tryz.checked) (os := os) (X := fun w _ => laidMetH Tryz.prog Rows.proofBackRow.laid w) false (Aw.wit os Rows.proofBackRow.laid) #[.slice none 0 0] 8 (Aw.wit_os _ _)
      (World.shaped_of_ZipB (by kernel_rfl) (by kernel_rfl)) (by kernel_rfl) (by kernel_rfl) (by kernel_rfl)
      (Aw.wit_met _ (by kernel_rfl) (by kernel_rfl) (by kernel_rfl))) ?_
  intro W base args ds gs before hval0 hW hc _ hL hsh
  have hval : ∀ (j : Nat) t v, Tryz.f4.params[j]? = some t → args[j]? = some v → Value.okWide Tryz.prog W .any base t v := hval0
  have hW' := hW
  obtain ⟨p, q, hA0, hV, rfl, _, _⟩ := hW
  have hA : DataW.TrodAll enc Tryz.prog W 0 (fun _ => true) true Tryz.f4.params.toList args.toList ds p := hA0
  rw [Tryz.params4] at hA hval
  obtain ⟨v0, d0, hargs, rfl, h0⟩ := trodAll_one hA
  obtain ⟨rfl, rfl⟩ := trodVars_none hV
  have hargs : args = #[v0] := by cases args; simpa using hargs
  subst hargs
  have hlt := hA.lt
  obtain ⟨l, hrel, hsz, hint⟩ := Aw.open_steps (hval 0 23 v0 rfl rfl) h0
  obtain ⟨m, e1, e2, he1, he2, hgood⟩ := Aw.good_enter (laid := Rows.proofBackRow.laid) hsh hL (.tail _ (.tail _ (.head _)))
    ⟨_, _, .tail _ (.tail _ (.tail _ (.tail _ (.tail _ (.tail _ (.head _)))))), rfl⟩ ⟨_, _, .tail _ (.tail _ (.tail _ (.tail _ (.tail _ (.head _))))), rfl⟩ (.tail _ (.tail _ (.tail _ (.tail _ (.head _)))))
  simp only [List.append_nil] at hW'
  refine (((Aw.lawBack_ok (Aw.GL_ml m e1 e2) (Aw.GL_gs m he1 he2) (Aw.GL_as m e1 e2) l hsz hint Aw.St.emp).out W #[v0] (Aw.YOk.none rfl _ _) hgood (by simp only [Aw.RelL]; exact ⟨_, _, rfl, hrel, rfl⟩)).calls Tryz.func4 rfl (by decide +kernel)).mono fun e W' ⟨o, S', ho, hg', hadv, e1, e2⟩ => ?_
  subst e1; subst e2
  cases e with
  | returned v =>
    simp only [Aw.OutRel, Aw.Rel] at ho
    subst ho
    have hb := Aw.Adv.below hadv
    exact ⟨_, rfl, _, _, _, [], _, [], hW', trodAll_mk1 (shut_bool Tryz.underlying4 _), trodAll_mk1 (Below.trod laidOut (by kernel_rfl) (of_decide_eq_true (by kernel_rfl)) h0 hb hlt), rfl, hb.frame _, fun h => by cases h⟩
  | _ => exact ho.elim

theorem holds : Rows.ProofBackSaid :=
  OpenClaim.holds_of_wide 4 Tryz.f4 rfl rfl rfl rfl rfl rfl rfl ⟨rfl, rfl, rfl, rfl, rfl⟩ rfl rfl rfl rfl rfl (by kernel_rfl) Tryz.func4 (by kernel_rfl)
    (of_decide_eq_true (by kernel_rfl)) (by unfold Func.isWrapper; first | (rw [if_pos (by decide +kernel)]; kernel_rfl) | (rw [if_neg (by decide +kernel)]; exact ⟨rfl, rfl⟩))
    (fun os started H enc _ => lifted os started H enc)
theorem card_holds : Rows.ProofBackCardSaid :=
  Claim7.holds_tied_plain_at .later [] [.data, .data, .data, .data, .handle, .sentinel, .sentinel, .pinned] true (true, "834bb0dd8cad775c5947b7b86f60cce33bbce4c65ec49f3d41a1eb60eac891a7") true holds (fun _ h => by cases h) (by kernel_rfl) (fun _ h => by cases h) proofBack_row_tie rfl ⟨rfl, rfl⟩ (by kernel_rfl) rfl
    (fun f fn hf hfn => by
      obtain rfl : f = 4 := Option.some.inj ((show Tryz.prog.funcNamed "hallmark/hallmarklaw8.ProofBack" = some 4 by kernel_rfl).symm.trans hf) |>.symm
      obtain rfl : fn = Tryz.f4 := (Option.some.inj (Tryz.func4.symm.trans hfn)).symm
      exact ⟨by kernel_rfl, fun j t ht => by
        rw [Tryz.params4] at ht
        have hm : t ∈ [23] := by simpa using Array.mem_of_getElem? ht
        have hall : ([23].all fun u => !Tryz.prog.wantsStandIn u) = true := by kernel_rfl
        exact (show Tryz.prog.wantsStandIn t = false by simpa using List.all_eq_true.1 hall t hm)⟩)
    (by kernel_rfl)
#print axioms card_holds
end Go.Proofs.YtdlgedpmbeafdaaGreatDoor

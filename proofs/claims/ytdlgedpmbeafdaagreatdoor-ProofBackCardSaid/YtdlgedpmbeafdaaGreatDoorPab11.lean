/-
  errors.As at a target **api.Fault: turned from the worked proof of the toy 'toyas'.
  errors.As in the abstract walk's words; proof.Parse.
  proof.Read, walked.
  Package proof, walked: the texts of literals, operations, rows.
  strings.Join's contract; proof.rowText, ends.
  Package proof, walked: ends.
  Package proof, walked: text's inner function.
  Package proof, walked: text.
-/
import Derived.Test.YtdlgedpmbeafdaaGreatDoorPab10
import Derived.WalkKit
import Derived.LaidEql
import Derived.Stop.Asserts
import Derived.RowKitTokens
import Derived.Lib.ItoaLen
set_option maxRecDepth 100000
set_option linter.unusedVariables false
set_option linter.unusedSimpArgs false
namespace Go.Proofs.YtdlgedpmbeafdaaGreatDoor.Aw
open Go Go.RowKit Go.Extern.Stop Go.Stop Go.Extern
variable {G : Nat → Option (List AV)}

theorem as_nil (t : Value) (w : World) :
    Calls Tryz.prog 22 #[.nilIface, t] w fun e w' => e = .returned (.bool false) ∧ w' = w := by
  go_enter Tryz.func22, Tryz.ntmps22
  go_wp2
  go_ret
  exact ⟨rfl, rfl⟩
theorem As.valueOf2 (t : Addr) (w : World) : (ReflectliteValue.unpack (.iface 69 (.pointer (some t)))).run Tryz.prog w
    = .ok (.agg #[.pointer (some ⟨9, 69, none⟩), .pointer (some ⟨w.heap.size, 0, none⟩), .int .u64 150]) (w.alloc (.cells #[.pointer (some t)] 69)) := by kernel_rfl
theorem As.type2 (a : Addr) (w : World) : (ReflectliteValue.methodAny (ReflectliteValue.valueError "reflectlite.Value.Type" 0) (fun t _ _ _ => ReflectliteType.toType t) #[.agg #[.pointer (some ⟨9, 69, none⟩), .pointer (some a), .int .u64 150]]).run Tryz.prog w
    = .ok (.iface 126 (.agg #[.pointer (some ⟨9, 69, none⟩)])) w := by kernel_rfl
theorem As.methodKind (h : Value) (w : World) : (Go.method 361 126 (.agg #[h]) "Kind").run Tryz.prog w = .ok (180, h) w := by kernel_rfl
theorem As.kind2 (w : World) : ((ReflectliteType.abiMethod fun t => (fun a : Nat => Value.int IntKind.u8 (a : Int)) <$> Rtype.kind t) #[.pointer (some ⟨9, 69, none⟩)]).run Tryz.prog w = .ok (.int .u8 22) w := by kernel_rfl
theorem As.kind1 (w : World) : ((ReflectliteType.abiMethod fun t => (fun a : Nat => Value.int IntKind.u8 (a : Int)) <$> Rtype.kind t) #[.pointer (some ⟨9, 60, none⟩)]).run Tryz.prog w = .ok (.int .u8 22) w := by kernel_rfl
theorem As.rlm (z : Sem Value) (f : TypeId → Addr → Nat → Nat → Sem Value) (v : Value) :
    ReflectliteValue.method z f #[v] = (do match ← ReflectliteValue.parts v with | none => z | some (t, a, fl) => f t a fl (fl % 32)) := rfl
theorem As.parts2 (a : Addr) (w : World) : (ReflectliteValue.parts (.agg #[.pointer (some ⟨9, 69, none⟩), .pointer (some a), .int .u64 150])).run Tryz.prog w = .ok (some (69, a, 150)) w := by kernel_rfl
theorem As.isNil2 (a p : Addr) (W : World) (ha : W.cell? a = some (.pointer (some p))) :
    (ReflectliteValue.method (ReflectliteValue.valueError "reflectlite.Value.IsNil" 0) ReflectliteValue.isNil #[.agg #[.pointer (some ⟨9, 69, none⟩), .pointer (some a), .int .u64 150]]).run Tryz.prog W = .ok (.bool false) W := by
  rw [As.rlm]
  simp only [Sem.run_bind, As.parts2, Result.andThen]
  simp [ReflectliteValue.isNil, loadVar, isAgg, underlying, Tryz.underlying69, ha, Result.andThen]
theorem As.methodElem (h : Value) (w : World) : (Go.method 361 126 (.agg #[h]) "Elem").run Tryz.prog w = .ok (193, .agg #[h]) w := by kernel_rfl
theorem As.methodImplements (h : Value) (w : World) : (Go.method 361 126 (.agg #[h]) "Implements").run Tryz.prog w = .ok (194, .agg #[h]) w := by kernel_rfl
theorem As.methodAssignableTo (h : Value) (w : World) : (Go.method 361 126 (.agg #[h]) "AssignableTo").run Tryz.prog w = .ok (191, .agg #[h]) w := by kernel_rfl
theorem As.elem2 (w : World) : (ReflectliteType.method ReflectliteType.elem #[.agg #[.pointer (some ⟨9, 69, none⟩)]]).run Tryz.prog w = .ok (.iface 126 (.agg #[.pointer (some ⟨9, 60, none⟩)])) w := by kernel_rfl
theorem As.implements1 (w : World) : (ReflectliteType.relation "Implements" ReflectliteType.implements_ #[.agg #[.pointer (some ⟨9, 60, none⟩)], .iface 126 (.agg #[.pointer (some ⟨9, 25, none⟩)])]).run Tryz.prog w = .ok (.bool true) w := by kernel_rfl
theorem As.typeOf1 (v : Value) (w : World) : (ReflectliteType.typeOf #[.iface 60 v]).run Tryz.prog w = .ok (.iface 126 (.agg #[.pointer (some ⟨9, 60, none⟩)])) w := by kernel_rfl
theorem As.assignable1 (w : World) : (ReflectliteType.relation "AssignableTo" ReflectliteType.assignableTo #[.agg #[.pointer (some ⟨9, 60, none⟩)], .iface 126 (.agg #[.pointer (some ⟨9, 60, none⟩)])]).run Tryz.prog w = .ok (.bool true) w := by kernel_rfl
theorem As.valueOf1 (e : Addr) (w : World) : (ReflectliteValue.unpack (.iface 60 (.pointer (some e)))).run Tryz.prog w
    = .ok (.agg #[.pointer (some ⟨9, 60, none⟩), .pointer (some ⟨w.heap.size, 0, none⟩), .int .u64 150]) (w.alloc (.cells #[.pointer (some e)] 60)) := by kernel_rfl
theorem As.elemOf2 (w : World) : (Rtype.elem? 69).run Tryz.prog w = .ok (some 60) w := by kernel_rfl
theorem As.mk1 (p : Addr) (w : World) : (ReflectliteValue.mk 60 p ReflectliteValue.flagAddr).run Tryz.prog w = .ok (.agg #[.pointer (some ⟨9, 60, none⟩), .pointer (some p), .int .u64 406]) w := by kernel_rfl
theorem As.elemV2 (a p : Addr) (W : World) (ha : W.cell? a = some (.pointer (some p))) :
    (ReflectliteValue.method (ReflectliteValue.valueError "reflectlite.Value.Elem" 0) ReflectliteValue.elem #[.agg #[.pointer (some ⟨9, 69, none⟩), .pointer (some a), .int .u64 150]]).run Tryz.prog W
      = .ok (.agg #[.pointer (some ⟨9, 60, none⟩), .pointer (some p), .int .u64 406]) W := by
  rw [As.rlm]
  simp only [Sem.run_bind, As.parts2, Result.andThen]
  simp [ReflectliteValue.elem, loadVar, isAgg, underlying, Tryz.underlying69, ha, Result.andThen, As.elemOf2, As.mk1]
theorem As.rls (v x : Value) : ReflectliteValue.set #[v, x] = (do
    let (some (dst, a, fl), some (src, b, _)) := (← ReflectliteValue.parts v, ← ReflectliteValue.parts x)
      | unsupported (.noEntry "extern/(internal/reflectlite.Value).Set.zeroValue")
    if fl / ReflectliteValue.flagAddr % 2 == 0 then unsupported (.noEntry "extern/(internal/reflectlite.Value).Set.unaddressable")
    let val ← loadVar src b
    if ← Rtype.directlyAssignable dst src then storeVar dst a val
    else if ← Rtype.implements dst src then
      if (← Rtype.kind src) == 20 then
        match val with
        | .nilIface => unsupported (.noEntry "extern/reflectlite: a nil value of one interface type handed on as a value of another")
        | _ => storeVar dst a val
      else storeVar dst a (.iface src val)
    else panicString ("reflectlite.Set: value of type " ++ (← Rtype.spelt src) ++ " is not assignable to type " ++ (← Rtype.spelt dst))
    pure (.tuple #[])) := rfl
theorem As.parts1a (a : Addr) (w : World) : (ReflectliteValue.parts (.agg #[.pointer (some ⟨9, 60, none⟩), .pointer (some a), .int .u64 406])).run Tryz.prog w = .ok (some (60, a, 406)) w := by kernel_rfl
theorem As.parts1 (a : Addr) (w : World) : (ReflectliteValue.parts (.agg #[.pointer (some ⟨9, 60, none⟩), .pointer (some a), .int .u64 150])).run Tryz.prog w = .ok (some (60, a, 150)) w := by kernel_rfl
theorem As.direct1 (w : World) : (Rtype.directlyAssignable 60 60).run Tryz.prog w = .ok true w := by kernel_rfl
theorem As.set1 (ta b e : Addr) (old : Value) (W : World) (hb : W.cell? b = some (.pointer (some e))) (ht : W.cell? ta = some old) (hf : W.frozen? ta = false) :
    (ReflectliteValue.set #[.agg #[.pointer (some ⟨9, 60, none⟩), .pointer (some ta), .int .u64 406], .agg #[.pointer (some ⟨9, 60, none⟩), .pointer (some b), .int .u64 150]]).run Tryz.prog W
      = .ok (.tuple #[]) (W.setCell ta (.pointer (some e))) := by
  rw [As.rls]
  simp only [Sem.run_bind, As.parts1a, As.parts1, Result.andThen]
  simp [ReflectliteValue.flagAddr, loadVar, isAgg, underlying, Tryz.underlying60, hb, Result.andThen, As.direct1, storeVar, Value.cells, storeCells, Addr.add]
  rw [run_store Tryz.prog W ta _ _ (by rfl)]
  simp [ht, hf]
set_option maxHeartbeats 4000000 in
theorem as_hit (e t : Addr) (old : Value) (w : World) (hg : w.cell? ⟨0, 0, none⟩ = some (.iface 126 (.agg #[.pointer (some ⟨9, 25, none⟩)]))) (ht0 : w.cell? t = some old) (hf0 : w.frozen? t = false) :
    Calls Tryz.prog 22 #[.iface 60 (.pointer (some e)), .iface 69 (.pointer (some t))] w fun ev w' => ev = .returned (.bool true) ∧ w' = ((((w.alloc (.cells #[.pointer (some t)] 69)).alloc (.cells #[.pointer (some ⟨9, 69, none⟩), .pointer (some ⟨w.heap.size, 0, none⟩), .int .u64 150] 98)).alloc (.cells #[.pointer (some ⟨9, 69, none⟩), .pointer (some ⟨w.heap.size, 0, none⟩), .int .u64 150] 98)).alloc (.cells #[.pointer (some e)] 60)).setCell t (.pointer (some e)) := by
  have h6 := @run_callFunc_extern Tryz.prog 37 _ (fun args => ReflectliteValue.unpack (args.getD 0 (.tuple #[]))) Tryz.func37 (by kernel_rfl) (by kernel_rfl) (by kernel_rfl) (by kernel_rfl)
  have h7 := @run_callFunc_extern Tryz.prog 38 _ (ReflectliteValue.methodAny (ReflectliteValue.valueError "reflectlite.Value.Type" 0) (fun t _ _ _ => ReflectliteType.toType t)) Tryz.func38 (by kernel_rfl) (by kernel_rfl) (by kernel_rfl) (by kernel_rfl)
  have h8 := @run_callFunc_extern Tryz.prog 39 _ (ReflectliteValue.method (ReflectliteValue.valueError "reflectlite.Value.IsNil" 0) ReflectliteValue.isNil) Tryz.func39 (by kernel_rfl) (by kernel_rfl) (by kernel_rfl) (by kernel_rfl)
  have h27 := @run_callFunc_extern Tryz.prog 180 _ (ReflectliteType.abiMethod fun t => do pure (.int .u8 (← Rtype.kind t))) Tryz.func180 (by kernel_rfl) (by kernel_rfl) (by kernel_rfl) (by kernel_rfl)
  have h37 := @run_callFunc_extern Tryz.prog 193 _ (ReflectliteType.method ReflectliteType.elem) Tryz.func193 (by kernel_rfl) (by kernel_rfl) (by kernel_rfl) (by kernel_rfl)
  have h38 := @run_callFunc_extern Tryz.prog 194 _ (ReflectliteType.relation "Implements" ReflectliteType.implements_) Tryz.func194 (by kernel_rfl) (by kernel_rfl) (by kernel_rfl) (by kernel_rfl)
  have h10 := @run_callFunc_extern Tryz.prog 74 _ ReflectliteType.typeOf Tryz.func74 (by kernel_rfl) (by kernel_rfl) (by kernel_rfl) (by kernel_rfl)
  have h35 := @run_callFunc_extern Tryz.prog 191 _ (ReflectliteType.relation "AssignableTo" ReflectliteType.assignableTo) Tryz.func191 (by kernel_rfl) (by kernel_rfl) (by kernel_rfl) (by kernel_rfl)
  have h11 := @run_callFunc_extern Tryz.prog 75 _ (ReflectliteValue.method (ReflectliteValue.valueError "reflectlite.Value.Elem" 0) ReflectliteValue.elem) Tryz.func75 (by kernel_rfl) (by kernel_rfl) (by kernel_rfl) (by kernel_rfl)
  have h12 := @run_callFunc_extern Tryz.prog 76 _ ReflectliteValue.set Tryz.func76 (by kernel_rfl) (by kernel_rfl) (by kernel_rfl) (by kernel_rfl)
  have tO := As.typeOf1
  have mA := As.methodAssignableTo
  have a25 := As.assignable1
  have v25 := As.valueOf1
  have f6 := As.valueOf2
  have f7 := As.type2
  have mK := As.methodKind
  have mE := As.methodElem
  have mI := As.methodImplements
  have k27 := As.kind2
  have k25 := As.kind1
  have e27 := As.elem2
  have i25 := As.implements1
  have n8 := As.isNil2 ⟨w.heap.size, 0, none⟩ t ((w.alloc (.cells #[.pointer (some t)] 69)).alloc (.cells #[.pointer (some ⟨9, 69, none⟩), .pointer (some ⟨w.heap.size, 0, none⟩), .int .u64 150] 98)) (by simp)
  have hlt : 0 < w.heap.size := by
    rcases Nat.eq_zero_or_pos w.heap.size with h0 | h
    · simp [World.cell?, h0] at hg
    · exact h
  have hg2 : ((w.alloc (.cells #[.pointer (some t)] 69)).alloc (.cells #[.pointer (some ⟨9, 69, none⟩), .pointer (some ⟨w.heap.size, 0, none⟩), .int .u64 150] 98)).cell? ⟨0, 0, none⟩ = some (.iface 126 (.agg #[.pointer (some ⟨9, 25, none⟩)])) := by
    rw [World.cell?_alloc_lt _ _ ⟨0, 0, none⟩ (by simp), World.cell?_alloc_lt _ _ ⟨0, 0, none⟩ hlt]; exact hg
  have htl : t.block < w.heap.size := by
    rcases Nat.lt_or_ge t.block w.heap.size with h | h
    · exact h
    · simp [World.cell?, Array.getElem?_eq_none h] at ht0
  have el := As.elemV2 ⟨w.heap.size, 0, none⟩ t (((w.alloc (.cells #[.pointer (some t)] 69)).alloc (.cells #[.pointer (some ⟨9, 69, none⟩), .pointer (some ⟨w.heap.size, 0, none⟩), .int .u64 150] 98)).alloc (.cells #[.pointer (some ⟨9, 69, none⟩), .pointer (some ⟨w.heap.size, 0, none⟩), .int .u64 150] 98)) (by rw [World.cell?_alloc_lt _ _ ⟨w.heap.size, 0, none⟩ (by simp; omega)]; simp)
  have st := As.set1 t ⟨w.heap.size + 1 + 1 + 1, 0, none⟩ e old ((((w.alloc (.cells #[.pointer (some t)] 69)).alloc (.cells #[.pointer (some ⟨9, 69, none⟩), .pointer (some ⟨w.heap.size, 0, none⟩), .int .u64 150] 98)).alloc (.cells #[.pointer (some ⟨9, 69, none⟩), .pointer (some ⟨w.heap.size, 0, none⟩), .int .u64 150] 98)).alloc (.cells #[.pointer (some e)] 60))
    (by rw [World.cell?_alloc_at _ _ _ _ (by simp)]; rfl)
    (by rw [World.cell?_alloc_lt _ _ t (by simp; omega), World.cell?_alloc_lt _ _ t (by simp; omega), World.cell?_alloc_lt _ _ t (by simp; omega), World.cell?_alloc_lt _ _ t htl]; exact ht0)
    (by rw [World.frozen?_alloc_old _ _ t (by simp; omega), World.frozen?_alloc_old _ _ t (by simp; omega), World.frozen?_alloc_old _ _ t (by simp; omega), World.frozen?_alloc_old _ _ t (Nat.ne_of_lt htl)]; exact hf0)
  go_enter Tryz.func22, Tryz.ntmps22
  go_wp2
  refine wp_loop_rounds 1 ?_
  rw [rounds_succ]
  go_wp2
  go_ret
  exact ⟨rfl, rfl⟩
end Go.Proofs.YtdlgedpmbeafdaaGreatDoor.Aw

set_option maxRecDepth 100000
set_option linter.unusedVariables false
set_option linter.unusedSimpArgs false
namespace Go.Proofs.YtdlgedpmbeafdaaGreatDoor.Aw
open Go Go.RowKit
variable {G : Nat → Option (List AV)}

theorem good_alloc {w : World} {S : St} (hg : Good (C G) w S) (o : Obj) : Good (C G) (w.alloc o) S ∧ Adv w S (w.alloc o) S :=
  ⟨hg.mk (hg.1.alloc o) (Adv.alloc o hg.1.fresh), Adv.alloc o hg.1.fresh⟩
/-- What errors.errorType holds. -/
def GAs (G : Nat → Option (List AV)) : Prop := G 0 = some [.raw (.iface 126 (.agg #[.pointer (some ⟨9, 25, none⟩)]))]
theorem as_ok_nil (x : AV) (S : St) : Triple P (C G) 22 [.nili, x] S fun o S' => o = .ret (.bool false) ∧ S' = S := by
  refine Triple.of_calls (x := .bool false) Tryz.func22 rfl (by decide +kernel) (fun w vs hg hr => ?_) ⟨rfl, rfl⟩
  obtain ⟨u, v, hv, r1, r2⟩ := RelL.two hr
  simp only [Rel] at r1
  subst r1
  rw [show vs = #[.nilIface, v] from arr_of_list hv]
  refine (as_nil v w).mono fun e w' he => ?_
  obtain ⟨rfl, rfl⟩ := he
  exact ⟨_, rfl, by simp only [Rel], Below.refl _ _⟩
theorem as_ok_hit (hA : GAs G) (e : Int) {b : Nat} {S : St} (hS : S b = some (.obj 60 [.nilp])) :
    Triple P (C G) 22 [failAV e, .ifc 69 (.ref b 0)] S fun o S' => o = .ret (.bool true) ∧ S' = S.upd b (.obj 60 [.imm [.int .i64 2, .int .i64 0, .int .i64 e]]) := by
  refine Triple.of_callsW Tryz.func22 rfl (by decide +kernel) (fun w vs hg hr => ?_)
  obtain ⟨u, v, hv, r1, r2⟩ := RelL.two hr
  unfold failAV at r1
  simp only [Rel] at r1 r2
  obtain ⟨y, rfl, fb, off, rfl, r3⟩ := r1
  obtain ⟨z, rfl, rfl⟩ := r2
  rw [show vs = #[.iface 60 (.pointer (some ⟨fb, off, none⟩)), .iface 69 (.pointer (some ⟨b, 0, none⟩))] from arr_of_list hv]
  obtain ⟨_, _, h3, _⟩ := hg.2 _ _ hA
  simp only [RelAt] at h3
  obtain ⟨⟨v0, ⟨_, h4, _⟩, h5⟩, _⟩ := h3
  simp only [Rel] at h5
  subst h5
  obtain ⟨cs, k1, k2, k3⟩ := hg.1 b _ hS
  obtain ⟨u0, hu0, h6⟩ := RelL.one k2
  simp only [Rel] at h6
  subst h6
  obtain rfl : cs = #[.pointer none] := arr_of_list hu0
  refine (as_hit ⟨fb, off, none⟩ ⟨b, 0, none⟩ (.pointer none) w h4 (by rw [Lib.cell_of_heap k1]; rfl) (by simp [World.frozen?, k1])).mono fun ev w' he => ?_
  obtain ⟨rfl, rfl⟩ := he
  obtain ⟨g1, a1⟩ := good_alloc hg (.cells #[.pointer (some ⟨b, 0, none⟩)] 69)
  obtain ⟨g2, a2⟩ := good_alloc g1 (.cells #[.pointer (some ⟨9, 69, none⟩), .pointer (some ⟨w.heap.size, 0, none⟩), .int .u64 150] 98)
  obtain ⟨g3, a3⟩ := good_alloc g2 (.cells #[.pointer (some ⟨9, 69, none⟩), .pointer (some ⟨w.heap.size, 0, none⟩), .int .u64 150] 98)
  obtain ⟨g4, a4⟩ := good_alloc g3 (.cells #[.pointer (some ⟨fb, off, none⟩)] 60)
  have aa := ((a1.trans a2).trans a3).trans a4
  generalize (((w.alloc _).alloc _).alloc _).alloc _ = w4 at *
  obtain ⟨cs, k1', k2', k3'⟩ := g4.1 b _ hS
  obtain ⟨u0, hu0, h6⟩ := RelL.one k2'
  simp only [Rel] at h6
  subst h6
  obtain rfl : cs = #[.pointer none] := arr_of_list hu0
  obtain ⟨r1, r2⟩ := setCell_row k1' (.pointer (some ⟨fb, off, none⟩))
  obtain ⟨q1, q2⟩ := good_row (w' := w4.setCell ⟨b, 0, none⟩ (.pointer (some ⟨fb, off, none⟩))) (cells' := [.imm [.int .i64 2, .int .i64 0, .int .i64 e]]) g4 hS k1' rfl rfl rfl (by simp [World.setCell]) r2 r1 (by simp) (by
      simp only [RelL, Rel]
      exact ⟨_, _, rfl, ⟨_, _, rfl, RelAt.mono aa _ _ _ r3⟩, rfl⟩) (by
      intro v hv
      simp only [Array.toList_setIfInBounds, List.set_cons_zero, List.mem_cons, List.not_mem_nil, or_false] at hv
      subst hv; rfl)
  exact ⟨_, .bool true, _, rfl, by simp only [Rel], q1, aa.trans q2, rfl, rfl⟩
/-- proof.Parse. -/
def parseP (s : ByteArray) : StepV × Int := if (parseW (wordsL s)).2 = 0 then ((parseW (wordsL s)).1, 0) else (zeroV, (parseW (wordsL s)).2)
theorem Parse_line_ok (hG : GS G) (hA : GAs G) (s : ByteArray) (hs : s.size ≤ 8999999) (S : St) :
    Triple P (C G) 10 [.str s] S fun o S' => o = .ret (.tu [stepAV (parseP s).1, .int .i64 (parseP s).2]) ∧ S' = S := by
  have hp := fun S => parse_ok (G := G) hG s hs S
  unfold parseP
  generalize parseW (wordsL s) = r at *
  obtain ⟨v, e⟩ := r
  dsimp only at hp ⊢
  refine triple_of_awp (hT G) hm Tryz.func10 rfl (by decide +kernel) rfl (by decide +kernel) (by show 1 ≤ _; decide +kernel) rfl ?_
  refine awp_seq2 fun K hK hQ => ?_
  conv => whnf
  intro b2 hb2
  conv => whnf
  refine hK _ _ ?_
  clear hK hQ K
  have hfin : ∀ (o2 o2' o4 o4' o6 : Own) (b4 b6 : Nat), (S.upd b2 o2) b4 = none → (((S.upd b2 o2).upd b4 o4).upd b4 o4') b6 = none → St.le S (((((S.upd b2 o2).upd b4 o4).upd b4 o4').upd b6 o6).upd b2 o2') := fun o2 o2' o4 o4' o6 b4 b6 hb4 hb6 => by
    rw [St.upd_upd] at hb6 ⊢
    exact St.le_upd (St.le_upd' (St.le_upd' (St.le_upd' (St.le_refl _) hb2 _) hb4 _) hb6 _) hb2 _
  have hfin2 : ∀ (o2 o2' o4 o4' o6 o6' : Own) (b4 b6 : Nat), (S.upd b2 o2) b4 = none → (((S.upd b2 o2).upd b4 o4).upd b4 o4') b6 = none → St.le S ((((((S.upd b2 o2).upd b4 o4).upd b4 o4').upd b6 o6).upd b6 o6').upd b2 o2') := fun o2 o2' o4 o4' o6 o6' b4 b6 hb4 hb6 => by
    rw [St.upd_upd _ b6]
    exact hfin _ _ _ _ _ _ _ hb4 hb6
  refine awp_seq2 fun K hK hQ => ?_
  by_cases he : e = 0
  · simp only [if_pos he] at hK hQ
    simp only [errAV, if_pos he] at hp
    conv => whnf
    refine (hp _).mono ?_
    rintro o S' ⟨rfl, rfl⟩
    conv => whnf
    intro b4 hb4
    conv => whnf
    refine ⟨_, _, St.upd_same _ _ _, ?_⟩
    conv => whnf
    refine hK _ _ ?_
    clear hK hQ K
    refine awp_seq2 fun K hK hQ => ?_
    conv => whnf
    intro b6 hb6
    conv => whnf
    refine hK _ _ ?_
    clear hK hQ K
    refine awp_seq2 fun K hK hQ => ?_
    conv => whnf
    refine (as_ok_nil _ _).mono ?_
    rintro o S' ⟨rfl, rfl⟩
    conv => whnf
    refine hK _ _ ?_
    clear hK hQ K
    conv => whnf
    refine ⟨_, _, St.up hb6 (St.upd_same _ _ _), ?_⟩
    conv => whnf
    refine ⟨_, _, St.up hb6 (by rw [St.upd_upd]; exact St.up hb4 (St.upd_same _ _ _)), ?_⟩
    conv => whnf
    refine ⟨_, _, St.upd_same _ _ _, ?_⟩
    conv => whnf
    refine ⟨_, _, ⟨rfl, rfl⟩, ?_, AV.leS_refl _ _ _⟩
    exact hfin _ _ _ _ _ _ _ hb4 hb6
  · simp only [if_neg he] at hK hQ
    simp only [errAV, if_neg he] at hp
    conv => whnf
    refine (hp _).mono ?_
    rintro o S' ⟨rfl, rfl⟩
    conv => whnf
    intro b4 hb4
    conv => whnf
    refine ⟨_, _, St.upd_same _ _ _, ?_⟩
    conv => whnf
    refine hK _ _ ?_
    clear hK hQ K
    refine awp_seq2 fun K hK hQ => ?_
    conv => whnf
    intro b6 hb6
    conv => whnf
    refine hK _ _ ?_
    clear hK hQ K
    refine awp_seq2 fun K hK hQ => ?_
    conv => whnf
    refine (as_ok_hit hA e (St.upd_same _ _ _)).mono ?_
    rintro o S' ⟨rfl, rfl⟩
    have q2 : ∀ o4 o4' o6 o6' : Own, ((((((S.upd b2 (.obj 40 stepZ)).upd b4 o4).upd b4 o4').upd b6 o6).upd b6 o6') b2 = some (.obj 40 stepZ)) := fun o4 o4' o6 o6' => by
      rw [St.upd_upd, St.upd_upd]
      have n1 : b2 ≠ b4 := (St.ne_upd hb4).symm
      have n2 : b2 ≠ b6 := (St.ne_upd (by rw [St.upd_upd] at hb6; exact St.no hb6)).symm
      exact St.ov n2 (St.ov n1 (St.upd_same _ _ _))
    have n62 : b6 ≠ b2 := St.ne_upd (by rw [St.upd_upd] at hb6; exact St.no hb6)
    refine ⟨[], (.free 0 (.one 1 (.free 2 (.free 3 (.one 4 (.one 5 (.free 6 .done) .none) (.one 5 (.free 4 (.free 6 .done)) .none)))) (.one 5 (.free 1 (.free 2 (.free 3 (.free 4 (.free 6 .done))))) .none))), _, by decide +kernel, ?_, fun _ _ h => ⟨_, .inl rfl, h⟩⟩
    conv => whnf
    refine ⟨?_, ?_⟩
    · refine ⟨_, _, St.upd_same _ _ _, ?_⟩
      conv => whnf
      refine ⟨?_, ?_⟩
      · conv => whnf
        refine ⟨_, _, q2 _ _ _ _, ?_⟩
        conv => whnf
        refine hQ _ _ _ (by simp) ?_
        conv => whnf
        refine ⟨_, _, St.upd_same _ _ _, ?_⟩
        conv => whnf
        refine ⟨_, _, ⟨rfl, rfl⟩, hfin2 _ _ _ _ _ _ _ _ hb4 hb6, ⟨⟨rfl, rfl, rfl, rfl, rfl, rfl, rfl, rfl, rfl, rfl, rfl⟩, rfl, rfl⟩⟩
      · refine ⟨_, _, q2 _ _ _ _, ?_⟩
        conv => whnf
        refine hQ _ _ _ (by simp) ?_
        conv => whnf
        refine ⟨_, _, St.upd_same _ _ _, ?_⟩
        conv => whnf
        refine ⟨_, _, ⟨rfl, rfl⟩, hfin2 _ _ _ _ _ _ _ _ hb4 hb6, ⟨⟨rfl, rfl, rfl, rfl, rfl, rfl, rfl, rfl, rfl, rfl, rfl⟩, rfl, rfl⟩⟩
    · refine ⟨_, _, q2 _ _ _ _, ?_⟩
      conv => whnf
      refine ⟨_, _, St.ov n62 (St.upd_same _ _ _), ?_⟩
      conv => whnf
      refine hQ _ _ _ (by simp) ?_
      conv => whnf
      refine ⟨_, _, St.upd_same _ _ _, ?_⟩
      conv => whnf
      refine ⟨_, _, ⟨rfl, rfl⟩, hfin2 _ _ _ _ _ _ _ _ hb4 hb6, ⟨⟨rfl, rfl, rfl, rfl, rfl, rfl, rfl, rfl, rfl, rfl, rfl⟩, rfl, rfl⟩⟩
end Go.Proofs.YtdlgedpmbeafdaaGreatDoor.Aw

set_option maxRecDepth 100000
set_option linter.unusedVariables false
set_option linter.unusedSimpArgs false
namespace Go.Proofs.YtdlgedpmbeafdaaGreatDoor.Aw
open Go Go.RowKit
variable {G : Nat → Option (List AV)}

def stepR (v : StepV) : List AV := [.int .i64 v.kind, .str v.num, .sl .any 3 (rowsO v.ops), .sl .any 2 (rowsP v.pieces), .str v.bound, .sl .any 1 (rowsI v.lits), .sl .any 1 (rowsS v.ids), .int .i64 v.n6, .str v.s7, .str v.s8]
def rowsT (l : List StepV) : List (List AV) := l.map stepR
@[simp] theorem rowsT_len (l : List StepV) : (rowsT l).length = l.length := by simp [rowsT]
/-- Line by line: the steps, or the fault's line and number. -/
def readL : List ByteArray → List StepV → List StepV × Option (Nat × Int)
  | [], acc => (acc, none)
  | s :: l, acc => if (parseP s).2 = 0 then readL l (acc ++ [(parseP s).1]) else (acc, some (acc.length + 1, (parseP s).2))
def readAV (r : List StepV × Option (Nat × Int)) : AV := match r.2 with
  | none => .tu [.sl .any 10 (rowsT r.1), .nili]
  | some (i, c) => .tu [.nils, .ifc 60 (.imm [.int .i64 2, .int .i64 (i : Int), .int .i64 c])]
theorem splitB_size (sep : ByteArray) (sv : Nat) : ∀ (k : Nat) (s : ByteArray), ∀ x ∈ Lib.splitB sep sv k s, x.size ≤ s.size
  | 0, s => by intro x hx; rw [Lib.splitB_zero] at hx; simp at hx; rw [hx]; exact Nat.le_refl _
  | k + 1, s => by
    intro x hx
    unfold Lib.splitB at hx
    split at hx
    · simp at hx; rw [hx]; exact Nat.le_refl _
    · rcases List.mem_cons.1 hx with rfl | hx
      · rw [ByteArray.size_extract]; omega
      · have := splitB_size sep sv k _ x hx
        rw [ByteArray.size_extract] at this; omega
theorem linesOf_size (s : ByteArray) : ∀ x ∈ linesOf s, x.size ≤ s.size := by
  intro x hx
  unfold linesOf at hx
  dsimp only at hx
  have hm : x ∈ splitS s sepNL := by
    split at hx
    · exact List.mem_of_mem_take hx
    · exact hx
  exact splitB_size _ _ _ _ x hm
theorem Read_ok {m : Int} (hM : G 1 = some [.int .i64 m]) (hG : GS G) (hA : GAs G) (s : ByteArray) (hs : s.size < 100000001) (hpl : ∀ x ∈ linesOf s, x.size ≤ 8999999) (S : St) :
    Triple P (C G) 7 [.str s] S fun o S' => o = .ret (readAV (readL (linesOf s) [])) ∧ S' = S := by
  have hlen : (linesOf s).length ≤ s.size + 1 := by
    have := splitS_le s sepNL (by decide)
    unfold linesOf
    dsimp only
    split
    · rw [List.length_take]; omega
    · omega
  have hl := fun S => lines_ok (G := G) hM s hs S
  generalize linesOf s = ls at *
  refine triple_of_awp (hT G) hm Tryz.func7 rfl (by decide +kernel) rfl (by decide +kernel) (by show 1 ≤ _; decide +kernel) rfl ?_
  refine awp_seq2 fun K hK hQ => ?_
  conv => whnf
  refine hK _ _ ?_
  clear hK hQ K
  refine awp_seq2 fun K hK hQ => ?_
  conv => whnf
  refine hK _ _ ?_
  clear hK hQ K
  refine awp_seq2 fun K hK hQ => ?_
  conv => whnf
  refine (hl _).mono ?_
  rintro o S' ⟨rfl, rfl⟩
  conv => whnf
  intro _
  conv => whnf
  refine ⟨⟨Nat × List StepV × Nat, fun x => [(0, .str s), (4, .sl (.acc x.2.2) 10 (rowsT x.2.1)), (10, .sl .any 1 (rowsS ls)), (11, .int .i64 (ls.length : Int)), (12, .int .i64 (x.1 : Int))],
    fun x S1 => AccOk S' S1 40 10 x.2.2 x.2.1.length ∧ x.1 ≤ ls.length ∧ x.2.1.length = x.1 ∧ readL (ls.drop x.1) x.2.1 = readL ls [], fun x => ls.length - x.1⟩,
    ⟨(0, [], 0), ⟨rfl, rfl, ⟨rfl, rfl⟩, congrArg (AV.int .i64) (by rw [rowsS_len]), rfl, trivial⟩, _, St.leW_refl _, AccOk.init _ _ _ _, by omega, rfl, rfl⟩, ?_⟩
  rintro ⟨i, acc, ba⟩ S1 ⟨h1, h2, h3, h4⟩
  dsimp only at h1 h2 h3 h4
  conv => whnf
  refine split_of (fun hlt => ?_) (fun hlt => ?_)
  · have hlt : i < ls.length := by have := of_decide_eq_true hlt; omega
    have hd : ls.drop i = ls[i] :: ls.drop (i + 1) := List.drop_eq_getElem_cons hlt
    rw [hd] at h4
    have hxs : ls[i].size ≤ 8999999 := hpl _ (List.getElem_mem hlt)
    have hp := fun S => Parse_line_ok (G := G) hG hA ls[i] hxs S
    simp only [readL] at h4
    generalize hgi : ls[i] = x at *
    generalize (parseP x).1 = v at *
    generalize (parseP x).2 = e at *
    conv => whnf
    refine ⟨[.str x], ⟨by omega, by rw [← hgi]; simp [rowsS, hlt]⟩, ?_⟩
    conv => whnf
    refine (hp _).mono ?_
    rintro o T ⟨rfl, rfl⟩
    conv => whnf
    intro b7 hb7
    conv => whnf
    refine ⟨_, _, St.upd_same _ _ _, ?_⟩
    conv => whnf
    rw [St.upd_upd]
    have w1 : IntKind.i64.wrap ((i : Int) + 1) = ((i + 1 : Nat) : Int) := wrap_nat (by omega)
    refine split_of (fun he => ?_) (fun he => ?_)
    · have he : ¬ e = 0 := by simpa using he
      rw [if_neg he] at h4
      rw [← h4] at hQ
      conv => whnf
      intro b8 hb8
      conv => whnf
      refine hQ _ _ _ (by simp) ?_
      conv => whnf
      rw [w1]
      have hle : St.le S' ((T.upd b7 (.obj 40 (stepR v))).upd b8 (.obj 62 [.int .i64 2, .int .i64 ((i + 1 : Nat) : Int), .int .i64 e])) := St.le_trans h1.le (St.le_upd' (St.le_upd' (St.le_refl _) hb7 _) hb8 _)
      refine ⟨_, _, ⟨rfl, rfl⟩, hle, ?_⟩
      refine ⟨rfl, ⟨rfl, St.le_none (St.le_trans h1.le (St.le_upd' (St.le_refl _) hb7 _)) hb8, _, _, St.upd_same _ _ _, ?_⟩, rfl⟩
      rw [h3]; rfl
    · have he : e = 0 := by simpa using he
      rw [if_pos he] at h4
      clear hK hQ
      have h1' : AccOk S' (T.upd b7 (.obj 40 (stepR v))) 40 10 ba acc.length := h1.other hb7 _
      conv => whnf
      refine ⟨_, _, St.upd_same _ _ _, ?_⟩
      conv => whnf
      intro bb hbb
      have h1'' := h1'.other hbb (.tip 40 10 1)
      conv => whnf
      refine ⟨⟨fun hl => ?_, ?_⟩, fun S4 c1 c2 b' c3 => ?_⟩
      · have : 0 < acc.length := by cases acc with
          | nil => exact absurd rfl hl
          | cons _ _ => simp
        rw [rowsT_len]; exact h1''.tip this
      · show ((rowsT acc).length + 1) * 176 ≤ _
        rw [rowsT_len]; omega
      have h5 := h1''.push (m := acc.length + 1) (by rw [rowsT_len]) c1 c2 c3 rfl
      rw [rowsT_len]
      conv => whnf
      refine ⟨(i + 1, acc ++ [v], b'), ⟨rfl, congrArg (AV.sl (.acc b') 10) (show rowsT acc ++ [stepR v] = rowsT (acc ++ [v]) by simp [rowsT]), ⟨rfl, rfl⟩, rfl, congrArg _ w1, trivial⟩, ⟨_, St.leW_refl _, by rw [show (acc ++ [v]).length = acc.length + 1 by simp]; exact h5, by show i + 1 ≤ _; omega, by simp [h3], h4⟩, by show ls.length - (i + 1) < ls.length - i; omega⟩
  · have hlt : i = ls.length := by have := of_decide_eq_false hlt; omega
    rw [hlt, List.drop_length] at h4
    rw [← h4] at hK
    conv => whnf
    refine hK _ _ ?_
    clear hK hQ K
    conv => whnf
    refine ⟨_, _, ⟨rfl, rfl⟩, h1.le, ⟨⟨rfl, rfl⟩, rfl, rfl⟩⟩
end Go.Proofs.YtdlgedpmbeafdaaGreatDoor.Aw

set_option maxRecDepth 100000
set_option linter.unusedVariables false
set_option linter.unusedSimpArgs false
namespace Go.Proofs.YtdlgedpmbeafdaaGreatDoor.Aw
open Go Go.RowKit
variable {G : Nat → Option (List AV)}

def okI (z : Int) : Prop := -9223372036854775808 ≤ z ∧ z ≤ 9223372036854775807
def litT (z : Int) : ByteArray := if z < 0 then (⟨#[126, 120]⟩ : ByteArray) ++ itoaS (IntKind.i64.wrap (0 - z)) else (⟨#[120]⟩ : ByteArray) ++ itoaS z
theorem wrap_okI (z : Int) : okI (IntKind.i64.wrap z) := by
  unfold okI
  rw [IntKind.wrap_i64]
  omega
theorem itoaS_le (z : Int) (h0 : -9223372036854775808 ≤ z) (h1 : z ≤ 9223372036854775807) : (itoaS z).size ≤ 21 := by rw [itoaS_size]; exact Lib.itoa_length_le z h0 h1
theorem litText_ok (hG : G10 G) (z : Int) (hz : okI z) (S : St) : Triple P (C G) 78 [.int .i64 z] S fun o S' => o = .ret (.str (litT z)) ∧ S' = S := by
  refine triple_of_awp (hT G) hm Tryz.func78 rfl (by decide +kernel) rfl (by decide +kernel) (by show 1 ≤ _; decide +kernel) rfl ?_
  conv => whnf
  refine split_of (fun h => ?_) (fun h => ?_)
  · have h := of_decide_eq_true h
    have hw := wrap_okI (0 - z)
    unfold litT
    rw [if_pos h]
    conv => whnf
    generalize IntKind.i64.wrap (0 - z) = y at *
    refine (itoa_ok hG y hw.1 hw.2 _).mono ?_
    rintro o S' ⟨rfl, rfl⟩
    conv => whnf
    refine ⟨by have := itoaS_le y hw.1 hw.2; show 2 + _ ≤ _; omega, ?_⟩
    conv => whnf
    exact ⟨_, _, ⟨rfl, rfl⟩, St.le_refl _, AV.leS_refl _ _ _⟩
  · have h := of_decide_eq_false h
    unfold litT
    rw [if_neg h]
    conv => whnf
    refine (itoa_ok hG z hz.1 hz.2 _).mono ?_
    rintro o S' ⟨rfl, rfl⟩
    conv => whnf
    refine ⟨by have := itoaS_le z hz.1 hz.2; show 1 + _ ≤ _; omega, ?_⟩
    conv => whnf
    exact ⟨_, _, ⟨rfl, rfl⟩, St.le_refl _, AV.leS_refl _ _ _⟩
theorem ba_size_append (a b : ByteArray) : (a ++ b).size = a.size + b.size := ByteArray.size_append
theorem litT_size (z : Int) (hz : okI z) : (litT z).size ≤ 23 := by
  unfold litT
  split
  · have := itoaS_le (IntKind.i64.wrap (0 - z)) (wrap_okI _).1 (wrap_okI _).2
    rw [ba_size_append]; show 2 + _ ≤ _; omega
  · have := itoaS_le z hz.1 hz.2
    rw [ba_size_append]; show 1 + _ ≤ _; omega
def litsT (l : List Int) : List ByteArray := l.map litT
theorem litTexts_ok (hG : G10 G) (l : List Int) (hl : ∀ z ∈ l, okI z) (hn : l.length ≤ 100000000) (S : St) : Triple P (C G) 50 [.sl .any 1 (rowsI l)] S fun o S' => o = .ret (.sl .any 1 (rowsS (litsT l))) ∧ S' = S := by
  refine triple_of_awp (hT G) hm Tryz.func50 rfl (by decide +kernel) rfl (by decide +kernel) (by show 1 ≤ _; decide +kernel) rfl ?_
  conv => whnf
  intro _
  conv => whnf
  refine ⟨⟨Nat × Nat, fun (i, ba) => [(0, .sl .any 1 (rowsI l)), (3, .sl (.acc ba) 1 (rowsS (litsT (l.take i)))), (6, .sl .any 1 (rowsI l)), (7, .int .i64 (l.length : Int)), (8, .int .i64 (i : Int))],
    fun (i, ba) S1 => AccOk S S1 9 1 ba (litsT (l.take i)).length ∧ i ≤ l.length, fun (i, _) => l.length - i⟩,
    ⟨(0, 0), ⟨⟨rfl, rfl⟩, rfl, ⟨rfl, rfl⟩, congrArg (AV.int .i64) (by rw [rowsI_len]), rfl, trivial⟩, _, St.leW_refl _, AccOk.init _ _ _ _, by omega⟩, ?_⟩
  rintro ⟨i, ba⟩ S1 ⟨h1, h2⟩
  have hlen : (litsT (l.take i)).length = i := by simp [litsT]; omega
  conv => whnf
  refine split_of (fun hlt => ?_) (fun hlt => ?_)
  · have hlt : i < l.length := by have := of_decide_eq_true hlt; omega
    have hsn : litsT (l.take (i + 1)) = litsT (l.take i) ++ [litT l[i]] := by rw [List.take_add_one, litsT, List.map_append]; simp [litsT, hlt]
    have hz := hl _ (List.getElem_mem hlt)
    have hgr : (rowsI l)[(i : Int).toNat]? = some [.int .i64 l[i]] := by simp [rowsI, hlt]
    generalize l[i] = z at *
    conv => whnf
    refine ⟨_, ⟨by omega, hgr⟩, ?_⟩
    conv => whnf
    refine (litText_ok hG z hz _).mono ?_
    rintro o T ⟨rfl, rfl⟩
    conv => whnf
    intro bb hbb
    have h1' := h1.other hbb (.tip 9 1 1)
    conv => whnf
    refine ⟨⟨fun hl => ?_, ?_⟩, fun S4 c1 c2 b' c3 => ?_⟩
    · have : 0 < (litsT (l.take i)).length := by
        cases hx : litsT (l.take i) with
        | nil => rw [hx] at hl; exact absurd rfl hl
        | cons _ _ => simp
      rw [rowsS_len]; exact h1'.tip this
    · show ((rowsS (litsT (l.take i))).length + 1) * 16 ≤ _
      rw [rowsS_len]; omega
    have h5 := h1'.push (m := (litsT (l.take i)).length + 1) (by rw [rowsS_len]) c1 c2 c3 rfl
    rw [rowsS_len]
    have w1 : IntKind.i64.wrap ((i : Int) + 1) = ((i + 1 : Nat) : Int) := wrap_nat (by omega)
    conv => whnf
    refine ⟨(i + 1, b'), ⟨⟨rfl, rfl⟩, congrArg (AV.sl (.acc b') 1) (show rowsS (litsT (l.take i)) ++ [[AV.str (litT z)]] = rowsS (litsT (l.take (i + 1))) by rw [hsn]; exact rowsS_snoc _ _), ⟨rfl, rfl⟩, rfl, congrArg _ w1, trivial⟩, ⟨_, St.leW_refl _, by rw [hsn, show (litsT (l.take i) ++ [litT z]).length = (litsT (l.take i)).length + 1 by simp]; exact h5, by show i + 1 ≤ _; omega⟩, by show l.length - (i + 1) < l.length - i; omega⟩
  · have hlt : i = l.length := by have := of_decide_eq_false hlt; omega
    subst hlt
    conv => whnf
    refine ⟨_, _, ⟨rfl, rfl⟩, h1.le, ⟨rfl, by rw [List.take_length]⟩⟩
def spS (s : ByteArray) : ByteArray := s
def opT (o : OpV) : ByteArray :=
  if o.1 = 1 then o.2.1 else if o.1 = 2 then litT o.2.2 else if o.1 = 3 then ⟨#[43]⟩ else if o.1 = 4 then o.2.1 ++ (⟨#[32, 42]⟩ : ByteArray) else if o.1 = 5 then o.2.1 ++ (⟨#[32, 100]⟩ : ByteArray)
  else if o.1 = 6 then ⟨#[115]⟩ else if o.1 = 7 then litT o.2.2 ++ (⟨#[32, 119]⟩ : ByteArray) else ⟨#[]⟩
theorem opText_ok (hG : G10 G) (o : OpV) (hz : okI o.2.2) (hs : o.2.1.size ≤ 1000000000) (S : St) : Triple P (C G) 48 [opAV o] S fun r S' => r = .ret (.str (opT o)) ∧ S' = S := by
  obtain ⟨k, num, z⟩ := o
  have hlz := litT_size z hz
  show Triple P (C G) 48 [.ag [.int .i64 k, .str num, .int .i64 z]] S fun r S' => r = .ret (.str (opT (k, num, z))) ∧ S' = S
  refine triple_of_awp (hT G) hm Tryz.func48 rfl (by decide +kernel) rfl (by decide +kernel) (by show 1 ≤ _; decide +kernel) rfl ?_
  refine awp_seq2 fun K hK hQ => ?_
  conv => whnf
  intro b hb
  conv => whnf
  refine hK _ _ ?_
  clear hK hQ K
  refine awp_seq2 fun K hK hQ => ?_
  conv => whnf
  refine ⟨_, _, St.upd_same _ _ _, ?_⟩
  conv => whnf
  have hle := St.le_upd' (St.le_refl S) hb (.obj 59 [.int .i64 k, .str num, .int .i64 z])
  have q := St.upd_same S b (.obj 59 [.int .i64 k, .str num, .int .i64 z])
  generalize S.upd b (.obj 59 [.int .i64 k, .str num, .int .i64 z]) = S1 at *
  refine split_of (fun h => ?_) (fun h => ?_)
  · have h1 : k = 1 := by simpa using h
    rw [show opT (k, num, z) = num from by simp [opT, h1]] at hQ
    clear hK
    conv => whnf
    refine ⟨_, _, q, ?_⟩
    conv => whnf
    refine hQ _ _ _ (by simp) ?_
    conv => whnf
    exact ⟨_, _, ⟨rfl, rfl⟩, hle, AV.leS_refl _ _ _⟩
  have h1 : ¬ k = 1 := by simpa using h
  conv => whnf
  refine split_of (fun h => ?_) (fun h => ?_)
  · have h2 : k = 2 := by simpa using h
    rw [show opT (k, num, z) = litT z from by simp [opT, h2]] at hQ
    clear hK
    conv => whnf
    refine ⟨_, _, q, ?_⟩
    conv => whnf
    refine (litText_ok hG z hz _).mono ?_
    rintro r S' ⟨rfl, rfl⟩
    conv => whnf
    refine hQ _ _ _ (by simp) ?_
    conv => whnf
    exact ⟨_, _, ⟨rfl, rfl⟩, hle, AV.leS_refl _ _ _⟩
  have h2 : ¬ k = 2 := by simpa using h
  conv => whnf
  refine split_of (fun h => ?_) (fun h => ?_)
  · have h3 : k = 3 := by simpa using h
    rw [show opT (k, num, z) = (⟨#[43]⟩ : ByteArray) from by simp [opT, h3]] at hQ
    clear hK
    conv => whnf
    refine hQ _ _ _ (by simp) ?_
    conv => whnf
    exact ⟨_, _, ⟨rfl, rfl⟩, hle, AV.leS_refl _ _ _⟩
  have h3 : ¬ k = 3 := by simpa using h
  conv => whnf
  refine split_of (fun h => ?_) (fun h => ?_)
  · have h4 : k = 4 := by simpa using h
    rw [show opT (k, num, z) = num ++ (⟨#[32, 42]⟩ : ByteArray) from by simp [opT, h4]] at hQ
    clear hK
    conv => whnf
    refine ⟨_, _, q, ?_⟩
    conv => whnf
    refine ⟨by show num.size + 2 ≤ _; dsimp only at hs; omega, ?_⟩
    conv => whnf
    refine hQ _ _ _ (by simp) ?_
    conv => whnf
    exact ⟨_, _, ⟨rfl, rfl⟩, hle, AV.leS_refl _ _ _⟩
  have h4 : ¬ k = 4 := by simpa using h
  conv => whnf
  refine split_of (fun h => ?_) (fun h => ?_)
  · have h5 : k = 5 := by simpa using h
    rw [show opT (k, num, z) = num ++ (⟨#[32, 100]⟩ : ByteArray) from by simp [opT, h5]] at hQ
    clear hK
    conv => whnf
    refine ⟨_, _, q, ?_⟩
    conv => whnf
    refine ⟨by show num.size + 2 ≤ _; dsimp only at hs; omega, ?_⟩
    conv => whnf
    refine hQ _ _ _ (by simp) ?_
    conv => whnf
    exact ⟨_, _, ⟨rfl, rfl⟩, hle, AV.leS_refl _ _ _⟩
  have h5 : ¬ k = 5 := by simpa using h
  conv => whnf
  refine split_of (fun h => ?_) (fun h => ?_)
  · have h6 : k = 6 := by simpa using h
    rw [show opT (k, num, z) = (⟨#[115]⟩ : ByteArray) from by simp [opT, h6]] at hQ
    clear hK
    conv => whnf
    refine hQ _ _ _ (by simp) ?_
    conv => whnf
    exact ⟨_, _, ⟨rfl, rfl⟩, hle, AV.leS_refl _ _ _⟩
  have h6 : ¬ k = 6 := by simpa using h
  conv => whnf
  refine split_of (fun h => ?_) (fun h => ?_)
  · have h7 : k = 7 := by simpa using h
    rw [show opT (k, num, z) = litT z ++ (⟨#[32, 119]⟩ : ByteArray) from by simp [opT, h7]] at hQ
    clear hK
    conv => whnf
    refine ⟨_, _, q, ?_⟩
    conv => whnf
    refine (litText_ok hG z hz _).mono ?_
    rintro r S' ⟨rfl, rfl⟩
    conv => whnf
    refine ⟨by show (litT z).size + 2 ≤ _; omega, ?_⟩
    conv => whnf
    refine hQ _ _ _ (by simp) ?_
    conv => whnf
    exact ⟨_, _, ⟨rfl, rfl⟩, hle, AV.leS_refl _ _ _⟩
  have h7 : ¬ k = 7 := by simpa using h
  conv => whnf
  refine hK _ _ ?_
  clear hK hQ K
  conv => whnf
  rw [show opT (k, num, z) = (⟨#[]⟩ : ByteArray) from by simp [opT, h1, h2, h3, h4, h5, h6, h7]]
  exact ⟨_, _, ⟨rfl, rfl⟩, hle, AV.leS_refl _ _ _⟩
end Go.Proofs.YtdlgedpmbeafdaaGreatDoor.Aw

set_option maxRecDepth 100000
set_option linter.unusedVariables false
set_option linter.unusedSimpArgs false
namespace Go.Proofs.YtdlgedpmbeafdaaGreatDoor.Aw
open Go Go.RowKit
variable {G : Nat → Option (List AV)}

def joinS (l : List ByteArray) (sep : ByteArray) : ByteArray := ⟨(Lib.join (l.map (·.data.toList)) sep.data.toList).toArray⟩
theorem join_ok (l : List ByteArray) (sep : ByteArray) (hn : l.length ≤ 140737488355328) (hlen : (joinS l sep).size ≤ 140737488355328) (S : St) : Triple P (C G) 52 [.sl .any 1 (rowsS l), .str sep] S fun o S' => o = .ret (.str (joinS l sep)) ∧ S' = S := by
  refine Triple.of_calls (x := .str (joinS l sep)) Tryz.func52 rfl (by decide +kernel) (fun w vs hg hr => ?_) ⟨rfl, rfl⟩
  obtain ⟨u, v, hv, r1, r2⟩ := RelL.two hr
  simp only [Rel] at r1 r2
  subst r2
  have hl0 : l = [] → ∀ a c, vs = #[.slice a 0 c, .string sep] → Calls P 52 vs w fun e w' => ∃ v, e = .returned v ∧ Rel w' (rdOf S) (.str (joinS l sep)) v ∧ Below w.heap.size w w' := by
    rintro rfl a c rfl
    refine (Tryz.strings_Join_none a c sep w).mono fun e w' he => ?_
    obtain ⟨rfl, rfl⟩ := he
    exact ⟨_, rfl, by simp only [Rel]; rfl, Below.refl _ _⟩
  have hrl : ∀ l : List ByteArray, rowsS l = [] → l = [] := fun l h => by simpa [rowsS] using h
  rcases r1 with ⟨_, h, hz⟩ | ⟨b, off, cap, rfl, h1, h2, _, h4⟩
  · obtain ⟨ap, rfl⟩ := hz.slice
    exact hl0 (hrl l h) ap 0 (arr_of_list hv)
  · by_cases hl : l = []
    · subst hl
      exact hl0 rfl _ cap (arr_of_list hv)
    · rw [rowsS_len] at h1
      have hcell : ∀ (j : Nat) x, l[j]? = some x → w.cell? ⟨b, off + j, none⟩ = some (.string x) := fun j x hx => by
        obtain ⟨g1, g2⟩ := RelRows.get h4 j [.str x] (by simp [rowsS, hx])
        obtain ⟨v, ⟨g3, g4, g5⟩, g6⟩ := RelAt.get g2 0 _ rfl
        simp only [Rel] at g6
        subst g6
        simpa using g4
      have hb : b < w.heap.size := by
        cases l with
        | nil => exact absurd rfl hl
        | cons x l =>
          have := hcell 0 x rfl
          rcases Nat.lt_or_ge b w.heap.size with h | h
          · exact h
          · simp [World.cell?, Array.getElem?_eq_none h] at this
      rw [show vs = #[.slice (some ⟨b, off, none⟩) l.length cap, .string sep] by rw [← rowsS_len l]; exact arr_of_list hv]
      have hlen' : (Lib.join (l.map (·.data.toList)) sep.data.toList).length ≤ 140737488355328 := by
        have : (joinS l sep).size = (Lib.join (l.map (·.data.toList)) sep.data.toList).length := by unfold joinS; simp [ByteArray.size]
        omega
      refine (Tryz.strings_Join b off cap l sep w hcell hb hn h1 hlen').mono fun e w' he => ?_
      obtain ⟨rfl, hbl⟩ := he
      exact ⟨_, rfl, by simp only [Rel]; rfl, hbl⟩
theorem joinS_size (l : List ByteArray) (sep : ByteArray) {k m : Nat} (hk : ∀ x ∈ l, x.size ≤ k) (hs : sep.size ≤ m) : (joinS l sep).size ≤ l.length * (k + m) := by
  have e : ∀ b : ByteArray, b.data.toList.length = b.size := fun b => by rw [Array.length_toList]; rfl
  have h1 : (joinS l sep).size = (Lib.join (l.map (·.data.toList)) sep.data.toList).length := by unfold joinS; simp [ByteArray.size]
  rw [h1]
  cases l with
  | nil => simp [Lib.join_nil]
  | cons x l =>
    rw [List.map_cons, Lib.join_cons, List.length_append, e]
    have hx := hk x (by simp)
    have ht : ∀ l : List ByteArray, (∀ x ∈ l, x.size ≤ k) → (Lib.joinTail sep.data.toList (l.map (·.data.toList))).length ≤ l.length * (k + m) := by
      intro l hl
      induction l with
      | nil => simp [Lib.joinTail]
      | cons y l ih =>
        have := ih (fun z hz => hl z (by simp [hz]))
        have hy := hl y (by simp)
        unfold Lib.joinTail at this ⊢
        rw [List.map_cons, List.map_cons, List.flatten_cons, List.length_append, List.length_append, e, e, List.length_cons, Nat.succ_mul]
        omega
    have := ht l (fun z hz => hk z (by simp [hz]))
    rw [List.length_cons, Nat.succ_mul]
    omega
def pieceT (ps : List (ByteArray × Int)) : List ByteArray := ps.flatMap fun p => [p.1, litT p.2]
def spaceS : ByteArray := ⟨#[32]⟩
def rowT (ps : List (ByteArray × Int)) (bound : ByteArray) : ByteArray := joinS (pieceT ps ++ [geS, bound, semiS]) spaceS
theorem pieceT_len (ps : List (ByteArray × Int)) : (pieceT ps).length = 2 * ps.length := by
  unfold pieceT
  induction ps with
  | nil => rfl
  | cons p ps ih => simp at ih ⊢; omega
theorem pieceT_snoc (ps : List (ByteArray × Int)) (p : ByteArray × Int) : pieceT (ps ++ [p]) = pieceT ps ++ [p.1, litT p.2] := by simp [pieceT]
/-- A row that the walks can take. -/
def OkRow (ps : List (ByteArray × Int)) (bound : ByteArray) : Prop := ps.length ≤ 1000000 ∧ (∀ p ∈ ps, okI p.2 ∧ p.1.size ≤ 10000000) ∧ bound.size ≤ 10000000
theorem pieceT_size {ps : List (ByteArray × Int)} {bound : ByteArray} (h : OkRow ps bound) : ∀ x ∈ pieceT ps ++ [geS, bound, semiS], x.size ≤ 10000000 := by
  intro x hx
  rcases List.mem_append.1 hx with hx | hx
  · unfold pieceT at hx
    obtain ⟨p, hp, hx⟩ := List.mem_flatMap.1 hx
    have := h.2.1 p hp
    have hl := litT_size p.2 this.1
    simp at hx
    rcases hx with rfl | rfl
    · exact this.2
    · omega
  · simp at hx
    rcases hx with rfl | rfl | rfl
    · decide
    · exact h.2.2
    · decide
theorem rowText_ok (hG : G10 G) (ps : List (ByteArray × Int)) (bound : ByteArray) (h : OkRow ps bound) (S : St) : Triple P (C G) 49 [.ag [.sl .any 2 (rowsP ps), .str bound]] S fun o S' => o = .ret (.str (rowT ps bound)) ∧ S' = S := by
  have hjs := joinS_size (pieceT ps ++ [geS, bound, semiS]) spaceS (pieceT_size h) (m := 1) (by decide)
  have hpl := pieceT_len ps
  refine triple_of_awp (hT G) hm Tryz.func49 rfl (by decide +kernel) rfl (by decide +kernel) (by show 1 ≤ _; decide +kernel) rfl ?_
  refine awp_seq2 fun K hK hQ => ?_
  conv => whnf
  intro b1 hb1
  conv => whnf
  refine hK _ _ ?_
  clear hK hQ K
  have q1 := St.upd_same S b1 (.obj 37 [.sl .any 2 (rowsP ps), .str bound])
  have hle1 := St.le_upd' (St.le_refl S) hb1 (.obj 37 [.sl .any 2 (rowsP ps), .str bound])
  generalize S.upd b1 (.obj 37 [.sl .any 2 (rowsP ps), .str bound]) = S1 at *
  refine awp_seq2 fun K hK hQ => ?_
  conv => whnf
  refine hK _ _ ?_
  clear hK hQ K
  refine awp_seq2 fun K hK hQ => ?_
  conv => whnf
  refine ⟨_, _, q1, ?_⟩
  conv => whnf
  intro _
  conv => whnf
  refine ⟨⟨Nat × Nat, fun (i, ba) => [(1, .ref b1 0), (3, .sl (.acc ba) 1 (rowsS (pieceT (ps.take i)))), (7, .sl .any 2 (rowsP ps)), (8, .int .i64 (ps.length : Int)), (9, .int .i64 (i : Int))],
    fun (i, ba) S2 => AccOk S1 S2 9 1 ba (pieceT (ps.take i)).length ∧ i ≤ ps.length, fun (i, _) => ps.length - i⟩,
    ⟨(0, 0), ⟨rfl, rfl, ⟨rfl, rfl⟩, congrArg (AV.int .i64) (by rw [rowsP_len]), rfl, trivial⟩, _, St.leW_refl _, AccOk.init _ _ _ _, by omega⟩, ?_⟩
  rintro ⟨i, ba⟩ S2 ⟨h1, h2⟩
  have hl2 : (pieceT (ps.take i)).length = 2 * i := by rw [pieceT_len, List.length_take]; omega
  conv => whnf
  refine split_of (fun hlt => ?_) (fun hlt => ?_)
  · have hlt : i < ps.length := by have := of_decide_eq_true hlt; omega
    have hsn : pieceT (ps.take (i + 1)) = pieceT (ps.take i) ++ [ps[i].1, litT ps[i].2] := by rw [← pieceT_snoc, List.take_add_one]; simp [hlt]
    have hz := h.2.1 _ (List.getElem_mem hlt)
    have hgr : (rowsP ps)[(i : Int).toNat]? = some [.str ps[i].1, .int .i64 ps[i].2] := by simp [rowsP, hlt]
    generalize ps[i].1 = nm at *
    generalize ps[i].2 = z at *
    clear hK hQ
    conv => whnf
    refine ⟨_, ⟨by omega, hgr⟩, ?_⟩
    conv => whnf
    intro b5 hb5
    conv => whnf
    refine ⟨_, _, St.upd_same _ _ _, ?_⟩
    conv => whnf
    rw [St.upd_upd]
    have h1' := h1.other hb5 (.obj 57 [.str nm, .int .i64 z])
    have q5 := St.upd_same S2 b5 (.obj 57 [.str nm, .int .i64 z])
    generalize S2.upd b5 (.obj 57 [.str nm, .int .i64 z]) = S3 at *
    refine ⟨[5], (.free 0 (.free 1 (.free 2 (.free 3 (.free 4 (.free 5 (.one 6 (.one 7 (.free 8 .done) .none) .none))))))), _, by decide +kernel, ?_, fun _ _ h => ⟨_, .inl rfl, h⟩⟩
    conv => whnf
    refine ⟨_, _, q5, ?_⟩
    conv => whnf
    refine ⟨_, _, q5, ?_⟩
    conv => whnf
    refine ⟨.str (litT z), (litText_ok hG z hz.1 _).mono ?_, ?_⟩
    · rintro o S' ⟨rfl, rfl⟩; exact ⟨rfl, rfl⟩
    conv => whnf
    intro bb hbb
    have h1'' := h1'.other hbb (.tip 9 1 2)
    conv => whnf
    refine ⟨⟨fun hl => ?_, ?_⟩, fun S4 c1 c2 b' c3 => ?_⟩
    · have : 0 < (pieceT (ps.take i)).length := by
        cases hx : pieceT (ps.take i) with
        | nil => rw [hx] at hl; exact absurd rfl hl
        | cons _ _ => simp
      rw [rowsS_len]; exact h1''.tip this
    · show ((rowsS (pieceT (ps.take i))).length + 2) * 16 ≤ _
      rw [rowsS_len]; have := h.1; omega
    have h5 := h1''.push (m := (pieceT (ps.take i)).length + 2) (by rw [rowsS_len]) c1 c2 c3 rfl
    rw [rowsS_len]
    have w1 : IntKind.i64.wrap ((i : Int) + 1) = ((i + 1 : Nat) : Int) := wrap_nat (by have := h.1; omega)
    conv => whnf
    refine ⟨(i + 1, b'), ⟨rfl, congrArg (AV.sl (.acc b') 1) (show rowsS (pieceT (ps.take i)) ++ [[AV.str nm], [AV.str (litT z)]] = rowsS (pieceT (ps.take (i + 1))) by rw [hsn]; simp [rowsS]), ⟨rfl, rfl⟩, rfl, congrArg _ w1, trivial⟩, ⟨_, St.leW_refl _, by rw [hsn, show (pieceT (ps.take i) ++ [nm, litT z]).length = (pieceT (ps.take i)).length + 2 by simp]; exact h5, by show i + 1 ≤ _; omega⟩, by show ps.length - (i + 1) < ps.length - i; omega⟩
  · have hlt : i = ps.length := by have := of_decide_eq_false hlt; omega
    subst hlt
    conv => whnf
    refine hK _ _ ?_
    clear hK hQ K
    conv => whnf
    refine ⟨_, _, h1.le _ _ q1, ?_⟩
    conv => whnf
    intro b3 hb3
    have h1'' := h1.other hb3 (.tip 9 1 3)
    conv => whnf
    refine ⟨⟨fun hl => ?_, ?_⟩, fun S4 c1 c2 b' c3 => ?_⟩
    · have : 0 < (pieceT (ps.take ps.length)).length := by
        cases hx : pieceT (ps.take ps.length) with
        | nil => rw [hx] at hl; exact absurd rfl hl
        | cons _ _ => simp
      rw [rowsS_len]; exact h1''.tip this
    · show ((rowsS (pieceT (ps.take ps.length))).length + 3) * 16 ≤ _
      rw [rowsS_len]; have := h.1; omega
    have h5 := h1''.push (m := (pieceT (ps.take ps.length)).length + 3) (by rw [rowsS_len]) c1 c2 c3 rfl
    rw [rowsS_len]
    conv => whnf
    have hjl : (pieceT ps ++ [geS, bound, semiS]).length ≤ 140737488355328 := by rw [List.length_append, hpl]; have := h.1; simp; omega
    have hj := join_ok (G := G) (pieceT ps ++ [geS, bound, semiS]) spaceS hjl (by have := h.1; rw [List.length_append, hpl] at hjs; simp at hjs; omega)
    refine Triple.use (hj _) (by exact ⟨⟨rfl, by rw [List.take_length]; simp [rowsS, geS, semiS]⟩, rfl, trivial⟩) ?_
    rintro o S' ⟨rfl, rfl⟩
    conv => whnf
    exact ⟨_, _, ⟨rfl, rfl⟩, St.le_trans hle1 h5.le, AV.leS_refl _ _ _⟩
end Go.Proofs.YtdlgedpmbeafdaaGreatDoor.Aw

set_option maxRecDepth 100000
set_option linter.unusedVariables false
set_option linter.unusedSimpArgs false
namespace Go.Proofs.YtdlgedpmbeafdaaGreatDoor.Aw
open Go Go.RowKit
variable {G : Nat → Option (List AV)}

/-- A step that the walks can take. -/
structure OkStep (v : StepV) : Prop where
  ops : v.ops.length ≤ 1000000 ∧ ∀ o ∈ v.ops, okI o.2.2 ∧ o.2.1.size ≤ 10000000
  row : OkRow v.pieces v.bound
  lits : v.lits.length ≤ 1000000 ∧ ∀ z ∈ v.lits, okI z
  ids : v.ids.length ≤ 1000000 ∧ ∀ x ∈ v.ids, x.size ≤ 10000000
  num : v.num.size ≤ 10000000
  s7 : v.s7.size ≤ 10000000
  s8 : v.s8.size ≤ 10000000
def idT (ids : List ByteArray) : ByteArray := match ids with | [] => ByteArray.empty | x :: _ => (⟨#[32, 58, 32]⟩ : ByteArray) ++ x
def endT (v : StepV) : ByteArray :=
  if v.n6 = 1 then ⟨#[78, 79, 78, 69]⟩ else if v.n6 = 3 then ⟨#[83, 65, 84]⟩ else if v.n6 = 2 then (⟨#[85, 78, 83, 65, 84]⟩ : ByteArray) ++ idT v.ids
  else if v.n6 = 6 then ((⟨#[65, 76, 76, 32]⟩ : ByteArray) ++ v.s8) ++ idT v.ids
  else if v.n6 = 5 then ((((⟨#[66, 79, 85, 78, 68, 83, 32]⟩ : ByteArray) ++ v.s7) ++ idT v.ids) ++ (⟨#[32]⟩ : ByteArray)) ++ v.s8 else ⟨#[]⟩
theorem idT_size {ids : List ByteArray} (h : ∀ x ∈ ids, x.size ≤ 10000000) : (idT ids).size ≤ 10000003 := by
  cases ids with
  | nil => decide
  | cons x l =>
    have := h x (by simp)
    unfold idT
    rw [ba_size_append]; show 3 + _ ≤ _; omega
theorem ends_ok (v : StepV) (h : OkStep v) (S : St) : Triple P (C G) 51 [stepAV v] S fun o S' => o = .ret (.str (endT v)) ∧ S' = S := by
  have hid := idT_size h.ids.2
  have h7 := h.s7
  have h8 := h.s8
  obtain ⟨kind, num, ops, pieces, bound, lits, ids, n6, s7, s8⟩ := v
  dsimp only at hid h7 h8
  unfold endT stepAV
  dsimp only
  refine triple_of_awp (hT G) hm Tryz.func51 rfl (by decide +kernel) rfl (by decide +kernel) (by show 1 ≤ _; decide +kernel) rfl ?_
  refine awp_seq2 fun K hK hQ => ?_
  conv => whnf
  intro b hb
  conv => whnf
  refine hK _ _ ?_
  clear hK hQ K
  have q := St.upd_same S b (.obj 40 [.int .i64 kind, .str num, .sl .any 3 (rowsO ops), .sl .any 2 (rowsP pieces), .str bound, .sl .any 1 (rowsI lits), .sl .any 1 (rowsS ids), .int .i64 n6, .str s7, .str s8])
  have hle := St.le_upd' (St.le_refl S) hb (.obj 40 [.int .i64 kind, .str num, .sl .any 3 (rowsO ops), .sl .any 2 (rowsP pieces), .str bound, .sl .any 1 (rowsI lits), .sl .any 1 (rowsS ids), .int .i64 n6, .str s7, .str s8])
  generalize S.upd b (.obj 40 [.int .i64 kind, .str num, .sl .any 3 (rowsO ops), .sl .any 2 (rowsP pieces), .str bound, .sl .any 1 (rowsI lits), .sl .any 1 (rowsS ids), .int .i64 n6, .str s7, .str s8]) = S1 at *
  refine awp_seq2 fun K hK hQ => ?_
  conv => whnf
  refine hK _ _ ?_
  clear hK hQ K
  refine awp_seq2 fun K hK hQ => ?_
  conv => whnf
  refine ⟨_, _, q, ?_⟩
  conv => whnf
  intro _
  cases ids with
  | nil =>
    conv => whnf
    refine hK _ _ ?_
    clear hK hQ K
    rw [show (⟨#[]⟩ : ByteArray) = idT [] from rfl]
    generalize idT [] = it at *
    refine awp_seq2 fun K hK hQ => ?_
    conv => whnf
    refine ⟨_, _, q, ?_⟩
    conv => whnf
    refine split_of (fun h => ?_) (fun h => ?_)
    · have h1 : n6 = 1 := by simpa using h
      simp only [if_pos h1] at hQ
      clear hK
      conv => whnf
      refine hQ _ _ _ (by simp) ?_
      conv => whnf
      exact ⟨_, _, ⟨rfl, rfl⟩, hle, AV.leS_refl _ _ _⟩
    have h1 : ¬ n6 = 1 := by simpa using h
    simp only [if_neg h1] at hK hQ
    conv => whnf
    refine split_of (fun h => ?_) (fun h => ?_)
    · have h1 : n6 = 3 := by simpa using h
      simp only [if_pos h1] at hQ
      clear hK
      conv => whnf
      refine hQ _ _ _ (by simp) ?_
      conv => whnf
      exact ⟨_, _, ⟨rfl, rfl⟩, hle, AV.leS_refl _ _ _⟩
    have h2 : ¬ n6 = 3 := by simpa using h
    simp only [if_neg h2] at hK hQ
    conv => whnf
    refine split_of (fun h => ?_) (fun h => ?_)
    · have h1 : n6 = 2 := by simpa using h
      simp only [if_pos h1] at hQ
      clear hK
      conv => whnf
      refine ⟨by show 5 + _ ≤ _; omega, ?_⟩
      conv => whnf
      refine hQ _ _ _ (by simp) ?_
      conv => whnf
      exact ⟨_, _, ⟨rfl, rfl⟩, hle, AV.leS_refl _ _ _⟩
    have h3 : ¬ n6 = 2 := by simpa using h
    simp only [if_neg h3] at hK hQ
    conv => whnf
    refine split_of (fun h => ?_) (fun h => ?_)
    · have h1 : n6 = 6 := by simpa using h
      simp only [if_pos h1] at hQ
      clear hK
      conv => whnf
      refine ⟨_, _, q, ?_⟩
      conv => whnf
      refine ⟨by show 4 + _ ≤ _; omega, ?_⟩
      conv => whnf
      refine ⟨by rw [ba_size_append]; show 4 + _ + _ ≤ _; omega, ?_⟩
      conv => whnf
      refine hQ _ _ _ (by simp) ?_
      conv => whnf
      exact ⟨_, _, ⟨rfl, rfl⟩, hle, AV.leS_refl _ _ _⟩
    have h4 : ¬ n6 = 6 := by simpa using h
    simp only [if_neg h4] at hK hQ
    conv => whnf
    refine split_of (fun h => ?_) (fun h => ?_)
    · have h1 : n6 = 5 := by simpa using h
      simp only [if_pos h1] at hQ
      clear hK
      conv => whnf
      refine ⟨_, _, q, ?_⟩
      conv => whnf
      refine ⟨by show 7 + _ ≤ _; omega, ?_⟩
      conv => whnf
      refine ⟨by rw [ba_size_append]; show 7 + _ + _ ≤ _; omega, ?_⟩
      conv => whnf
      refine ⟨by rw [ba_size_append, ba_size_append]; show 7 + _ + _ + 1 ≤ _; omega, ?_⟩
      conv => whnf
      refine ⟨_, _, q, ?_⟩
      conv => whnf
      refine ⟨by rw [ba_size_append, ba_size_append, ba_size_append]; show 7 + _ + _ + 1 + _ ≤ _; omega, ?_⟩
      conv => whnf
      refine hQ _ _ _ (by simp) ?_
      conv => whnf
      exact ⟨_, _, ⟨rfl, rfl⟩, hle, AV.leS_refl _ _ _⟩
    have h5 : ¬ n6 = 5 := by simpa using h
    simp only [if_neg h5] at hK hQ
    conv => whnf
    refine hK _ _ ?_
    clear hK hQ K
    conv => whnf
    exact ⟨_, _, ⟨rfl, rfl⟩, hle, AV.leS_refl _ _ _⟩
  | cons x l =>
    refine split_of (fun hh => ?_) (fun hh => by simp [rowsS] at hh)
    conv => whnf
    refine ⟨_, _, q, ?_⟩
    conv => whnf
    refine ⟨_, ⟨by omega, rfl⟩, ?_⟩
    conv => whnf
    refine ⟨by show 3 + x.size ≤ _; have := h.ids.2 x (by simp); omega, ?_⟩
    conv => whnf
    refine hK _ _ ?_
    clear hK hQ K
    have hit : (⟨#[32, 58, 32]⟩ : ByteArray) ++ x = idT (x :: l) := rfl
    rw [hit]
    generalize idT (x :: l) = it at *
    clear hit
    refine awp_seq2 fun K hK hQ => ?_
    conv => whnf
    refine ⟨_, _, q, ?_⟩
    conv => whnf
    refine split_of (fun h => ?_) (fun h => ?_)
    · have h1 : n6 = 1 := by simpa using h
      simp only [if_pos h1] at hQ
      clear hK
      conv => whnf
      refine hQ _ _ _ (by simp) ?_
      conv => whnf
      exact ⟨_, _, ⟨rfl, rfl⟩, hle, AV.leS_refl _ _ _⟩
    have h1 : ¬ n6 = 1 := by simpa using h
    simp only [if_neg h1] at hK hQ
    conv => whnf
    refine split_of (fun h => ?_) (fun h => ?_)
    · have h1 : n6 = 3 := by simpa using h
      simp only [if_pos h1] at hQ
      clear hK
      conv => whnf
      refine hQ _ _ _ (by simp) ?_
      conv => whnf
      exact ⟨_, _, ⟨rfl, rfl⟩, hle, AV.leS_refl _ _ _⟩
    have h2 : ¬ n6 = 3 := by simpa using h
    simp only [if_neg h2] at hK hQ
    conv => whnf
    refine split_of (fun h => ?_) (fun h => ?_)
    · have h1 : n6 = 2 := by simpa using h
      simp only [if_pos h1] at hQ
      clear hK
      conv => whnf
      refine ⟨by show 5 + _ ≤ _; omega, ?_⟩
      conv => whnf
      refine hQ _ _ _ (by simp) ?_
      conv => whnf
      exact ⟨_, _, ⟨rfl, rfl⟩, hle, AV.leS_refl _ _ _⟩
    have h3 : ¬ n6 = 2 := by simpa using h
    simp only [if_neg h3] at hK hQ
    conv => whnf
    refine split_of (fun h => ?_) (fun h => ?_)
    · have h1 : n6 = 6 := by simpa using h
      simp only [if_pos h1] at hQ
      clear hK
      conv => whnf
      refine ⟨_, _, q, ?_⟩
      conv => whnf
      refine ⟨by show 4 + _ ≤ _; omega, ?_⟩
      conv => whnf
      refine ⟨by rw [ba_size_append]; show 4 + _ + _ ≤ _; omega, ?_⟩
      conv => whnf
      refine hQ _ _ _ (by simp) ?_
      conv => whnf
      exact ⟨_, _, ⟨rfl, rfl⟩, hle, AV.leS_refl _ _ _⟩
    have h4 : ¬ n6 = 6 := by simpa using h
    simp only [if_neg h4] at hK hQ
    conv => whnf
    refine split_of (fun h => ?_) (fun h => ?_)
    · have h1 : n6 = 5 := by simpa using h
      simp only [if_pos h1] at hQ
      clear hK
      conv => whnf
      refine ⟨_, _, q, ?_⟩
      conv => whnf
      refine ⟨by show 7 + _ ≤ _; omega, ?_⟩
      conv => whnf
      refine ⟨by rw [ba_size_append]; show 7 + _ + _ ≤ _; omega, ?_⟩
      conv => whnf
      refine ⟨by rw [ba_size_append, ba_size_append]; show 7 + _ + _ + 1 ≤ _; omega, ?_⟩
      conv => whnf
      refine ⟨_, _, q, ?_⟩
      conv => whnf
      refine ⟨by rw [ba_size_append, ba_size_append, ba_size_append]; show 7 + _ + _ + 1 + _ ≤ _; omega, ?_⟩
      conv => whnf
      refine hQ _ _ _ (by simp) ?_
      conv => whnf
      exact ⟨_, _, ⟨rfl, rfl⟩, hle, AV.leS_refl _ _ _⟩
    have h5 : ¬ n6 = 5 := by simpa using h
    simp only [if_neg h5] at hK hQ
    conv => whnf
    refine hK _ _ ?_
    clear hK hQ K
    conv => whnf
    exact ⟨_, _, ⟨rfl, rfl⟩, hle, AV.leS_refl _ _ _⟩
end Go.Proofs.YtdlgedpmbeafdaaGreatDoor.Aw

set_option maxRecDepth 100000
set_option linter.unusedVariables false
set_option linter.unusedSimpArgs false
namespace Go.Proofs.YtdlgedpmbeafdaaGreatDoor.Aw
open Go Go.RowKit
variable {G : Nat → Option (List AV)}

/-- A variable that holds a list that grows. -/
structure TxAt (S₀ S : St) (b : Nat) (l : List ByteArray) (t : Nat) : Prop where
  le : St.le S₀ S
  new : S₀ b = none
  at_ : S b = some (.obj 32 [.sl (.acc t) 1 (rowsS l)])
  tip : TipOk S₀ S t 9 1 l.length
def Tx (S₀ S : St) (b : Nat) (l : List ByteArray) : Prop := ∃ t, TxAt S₀ S b l t
theorem say_ok {S₀ S : St} {b : Nat} {l : List ByteArray} (h : Tx S₀ S b l) (xs : List ByteArray) (hn : l.length + xs.length ≤ 100000000) (sh : Sh) : Triple P (C G) 47 [.sl sh 1 (rowsS xs), .ref b 0] S fun o S' => o = .ret (.tu []) ∧ Tx S₀ S' b (l ++ xs) := by
  obtain ⟨t, hat⟩ := h
  have hb := hat.at_
  refine triple_of_awp (hT G) hm Tryz.func47 rfl (by decide +kernel) rfl (by decide +kernel) (by show 2 ≤ _; decide +kernel) rfl ?_
  conv => whnf
  refine ⟨_, _, hb, ?_⟩
  conv => whnf
  cases xs with
  | nil =>
    conv => whnf
    refine ⟨⟨fun hl => ?_, ?_⟩, ?_⟩
    · rw [rowsS_len]; exact (hat.tip (by cases l <;> simp_all [rowsS])).1
    · show ((rowsS l).length + 0) * 16 ≤ _
      rw [rowsS_len]; omega
    conv => whnf
    refine ⟨_, _, hb, ?_⟩
    conv => whnf
    refine ⟨_, _, ⟨rfl, t, ?_⟩, St.le_refl _, AV.leS_refl _ _ _⟩
    rw [St.upd_id hb, List.append_nil]; exact hat
  | cons x xs =>
    conv => whnf
    refine ⟨⟨fun hl => ?_, ?_⟩, fun S4 c1 c2 b' c3 => ?_⟩
    · rw [rowsS_len]; exact (hat.tip (by cases l <;> simp_all [rowsS])).1
    · show ((rowsS l).length + (rowsS (x :: xs)).length) * 16 ≤ _
      rw [rowsS_len, rowsS_len]; simp at hn ⊢; omega
    have ha : AccStep S t 9 1 l.length (x :: xs).length b' (S4.upd b' (.tip 9 1 (l.length + (x :: xs).length))) := .inr ⟨by simp, S4, fun e => c1 (by rw [List.eq_nil_of_length_eq_zero e]; rfl), fun e => c2 (by cases l <;> simp_all [rowsS]), c3, rfl⟩
    obtain ⟨k1, k2⟩ := AccStep.tipOk hat.tip hat.le ha
    have hk := AccStep.other (fun hn => (hat.tip hn).1) ha hb (by intro n' e; cases e)
    have er : rowsS l ++ rowsS (x :: xs) = rowsS (l ++ (x :: xs)) := by simp [rowsS]
    rw [show ([AV.str x] :: List.map (fun s => [AV.str s]) xs) = rowsS (x :: xs) from rfl, er, rowsS_len, rowsS_len]
    conv => whnf
    refine ⟨_, _, hk, ?_⟩
    conv => whnf
    refine ⟨_, _, ⟨rfl, b', ?_⟩, St.le_refl _, AV.leS_refl _ _ _⟩
    exact ⟨St.le_upd k2 hat.new _, hat.new, St.upd_same _ _ _, TipOk.upd (by rw [List.length_append]; exact k1) hk _⟩
/-! ### text -/
def sumS (l : List ByteArray) : Nat := (l.map (·.size)).sum
theorem sumS_append (a b : List ByteArray) : sumS (a ++ b) = sumS a + sumS b := by simp [sumS]
theorem sumS_le {l : List ByteArray} {k : Nat} (h : ∀ x ∈ l, x.size ≤ k) : sumS l ≤ l.length * k := by
  induction l with
  | nil => simp [sumS]
  | cons x l ih =>
    have := ih (fun y hy => h y (by simp [hy]))
    have hx := h x (by simp)
    simp only [sumS, List.map_cons, List.sum_cons, List.length_cons, Nat.succ_mul] at this ⊢
    omega
theorem joinS_sum (l : List ByteArray) (sep : ByteArray) : (joinS l sep).size ≤ sumS l + l.length * sep.size := by
  have e : ∀ b : ByteArray, b.data.toList.length = b.size := fun b => by rw [Array.length_toList]; rfl
  have h1 : (joinS l sep).size = (Lib.join (l.map (·.data.toList)) sep.data.toList).length := by unfold joinS; simp [ByteArray.size]
  rw [h1]
  cases l with
  | nil => simp [Lib.join_nil]
  | cons x l =>
    rw [List.map_cons, Lib.join_cons, List.length_append, e]
    have ht : ∀ l : List ByteArray, (Lib.joinTail sep.data.toList (l.map (·.data.toList))).length ≤ sumS l + l.length * sep.size := by
      intro l
      induction l with
      | nil => simp [Lib.joinTail]
      | cons y l ih =>
        unfold Lib.joinTail at ih ⊢
        rw [List.map_cons, List.map_cons, List.flatten_cons, List.length_append, List.length_append, e, e, List.length_cons, Nat.succ_mul]
        simp only [sumS, List.map_cons, List.sum_cons] at ih ⊢
        omega
    have := ht l
    simp only [sumS, List.map_cons, List.sum_cons, List.length_cons, Nat.succ_mul] at this ⊢
    omega
def w1S : ByteArray := ⟨#[112, 115, 101, 117, 100, 111, 45, 66, 111, 111, 108, 101, 97, 110, 32, 112, 114, 111, 111, 102, 32, 118, 101, 114, 115, 105, 111, 110, 32, 50, 46, 48]⟩
def w8S : ByteArray := ⟨#[111, 117, 116, 112, 117, 116, 32, 78, 79, 78, 69]⟩
def w10S : ByteArray := ⟨#[101, 110, 100, 32, 112, 115, 101, 117, 100, 111, 45, 66, 111, 111, 108, 101, 97, 110, 32, 112, 114, 111, 111, 102]⟩
def textW (v : StepV) : List ByteArray :=
  if v.kind = 1 then [w1S] else if v.kind = 2 then [kF, v.num] else if v.kind = 3 then [kPol] ++ v.ops.map opT
  else if v.kind = 4 then [kRup, rowT v.pieces v.bound] ++ v.ids else if v.kind = 12 then ([kE] ++ v.ids) ++ [rowT v.pieces v.bound]
  else if v.kind = 5 then [kSoli] ++ litsT v.lits else if v.kind = 11 then [kSolx] ++ litsT v.lits else if v.kind = 6 then [kDel, ⟨#[105, 100]⟩] ++ v.ids
  else if v.kind = 7 then [kStar] else if v.kind = 8 then [w8S] else if v.kind = 9 then [kConc, endT v] else if v.kind = 10 then [w10S] else []
def textT (v : StepV) : ByteArray := joinS (textW v) spaceS
theorem Tx.new {S : St} {b : Nat} (hb : S b = none) : ∃ S3, St.leW S3 (S.upd b (.obj 32 [.nils])) ∧ Tx S S3 b [] := by
  have h1 := St.leW_upd (cs' := [.sl (.acc 0) 1 (rowsS [])]) (St.upd_same S b (.obj 32 [.nils])) ⟨rfl, trivial⟩
  rw [St.upd_upd] at h1
  exact ⟨_, h1, 0, St.le_upd' (St.le_refl _) hb _, hb, St.upd_same _ _ _, fun h => absurd h (by decide)⟩
theorem sumS_cons (x : ByteArray) (l : List ByteArray) : sumS (x :: l) = x.size + sumS l := by simp [sumS]
theorem sumS_nil : sumS [] = 0 := rfl
theorem opT_size (o : OpV) (h : okI o.2.2 ∧ o.2.1.size ≤ 10000000) : (opT o).size ≤ 10000025 := by
  have hl := litT_size o.2.2 h.1
  have hs := h.2
  unfold opT
  split
  · omega
  split
  · omega
  split
  · decide
  split
  · rw [ba_size_append]; show _ + 2 ≤ _; omega
  split
  · rw [ba_size_append]; show _ + 2 ≤ _; omega
  split
  · decide
  split
  · rw [ba_size_append]; show _ + 2 ≤ _; omega
  · decide
theorem endT_size {v : StepV} (h : OkStep v) : (endT v).size ≤ 40000000 := by
  have h1 := idT_size h.ids.2
  have h7 := h.s7
  have h8 := h.s8
  unfold endT
  split
  · decide
  split
  · decide
  split
  · rw [ba_size_append]; show 5 + _ ≤ _; omega
  split
  · rw [ba_size_append, ba_size_append]; show 4 + _ + _ ≤ _; omega
  split
  · rw [ba_size_append, ba_size_append, ba_size_append, ba_size_append]; show 7 + _ + _ + 1 + _ ≤ _; omega
  · decide
theorem rowT_size {ps : List (ByteArray × Int)} {bound : ByteArray} (h : OkRow ps bound) : (rowT ps bound).size ≤ 30000000000000 := by
  have hj := joinS_size (pieceT ps ++ [geS, bound, semiS]) spaceS (pieceT_size h) (m := 1) (by decide)
  have := h.1
  have hp := pieceT_len ps
  unfold rowT
  rw [List.length_append, hp] at hj
  simp only [List.length_cons, List.length_nil] at hj
  omega
set_option maxHeartbeats 1000000 in
theorem textW_bound {v : StepV} (h : OkStep v) : (textW v).length ≤ 2000000 ∧ sumS (textW v) ≤ 100000000000000 := by
  have hr := rowT_size h.row
  have he := endT_size h
  have ho : sumS (v.ops.map opT) ≤ (v.ops.map opT).length * 10000025 := sumS_le (fun x hx => by
    obtain ⟨o, ho, rfl⟩ := List.mem_map.1 hx
    exact opT_size o (h.ops.2 o ho))
  have hi : sumS v.ids ≤ v.ids.length * 10000000 := sumS_le h.ids.2
  have hl : sumS (litsT v.lits) ≤ (litsT v.lits).length * 23 := sumS_le (fun x hx => by
    unfold litsT at hx
    obtain ⟨z, hz, rfl⟩ := List.mem_map.1 hx
    exact litT_size z (h.lits.2 z hz))
  have hll : (litsT v.lits).length = v.lits.length := by simp [litsT]
  rw [List.length_map] at ho
  rw [hll] at hl
  have h1 := h.ops.1
  have h2 := h.ids.1
  have h3 := h.lits.1
  have h4 := h.num
  have e1 : w1S.size = 32 := rfl
  have e2 : kF.size = 1 := rfl
  have e3 : kPol.size = 3 := rfl
  have e4 : kRup.size = 3 := rfl
  have e5 : kE.size = 1 := rfl
  have e6 : kSoli.size = 4 := rfl
  have e7 : kSolx.size = 4 := rfl
  have e8 : kDel.size = 3 := rfl
  have e9 : kStar.size = 1 := rfl
  have e10 : w8S.size = 11 := rfl
  have e11 : kConc.size = 10 := rfl
  have e12 : w10S.size = 24 := rfl
  have e13 : (⟨#[105, 100]⟩ : ByteArray).size = 2 := rfl
  unfold textW
  by_cases k0 : v.kind = 1
  · rw [if_pos k0]; (simp only [sumS_append, sumS_cons, sumS_nil, List.length_append, List.length_cons, List.length_nil, List.length_map, hll]; constructor <;> omega)
  rw [if_neg k0]
  by_cases k1 : v.kind = 2
  · rw [if_pos k1]; (simp only [sumS_append, sumS_cons, sumS_nil, List.length_append, List.length_cons, List.length_nil, List.length_map, hll]; constructor <;> omega)
  rw [if_neg k1]
  by_cases k2 : v.kind = 3
  · rw [if_pos k2]; (simp only [sumS_append, sumS_cons, sumS_nil, List.length_append, List.length_cons, List.length_nil, List.length_map, hll]; constructor <;> omega)
  rw [if_neg k2]
  by_cases k3 : v.kind = 4
  · rw [if_pos k3]; (simp only [sumS_append, sumS_cons, sumS_nil, List.length_append, List.length_cons, List.length_nil, List.length_map, hll]; constructor <;> omega)
  rw [if_neg k3]
  by_cases k4 : v.kind = 12
  · rw [if_pos k4]; (simp only [sumS_append, sumS_cons, sumS_nil, List.length_append, List.length_cons, List.length_nil, List.length_map, hll]; constructor <;> omega)
  rw [if_neg k4]
  by_cases k5 : v.kind = 5
  · rw [if_pos k5]; (simp only [sumS_append, sumS_cons, sumS_nil, List.length_append, List.length_cons, List.length_nil, List.length_map, hll]; constructor <;> omega)
  rw [if_neg k5]
  by_cases k6 : v.kind = 11
  · rw [if_pos k6]; (simp only [sumS_append, sumS_cons, sumS_nil, List.length_append, List.length_cons, List.length_nil, List.length_map, hll]; constructor <;> omega)
  rw [if_neg k6]
  by_cases k7 : v.kind = 6
  · rw [if_pos k7]; (simp only [sumS_append, sumS_cons, sumS_nil, List.length_append, List.length_cons, List.length_nil, List.length_map, hll]; constructor <;> omega)
  rw [if_neg k7]
  by_cases k8 : v.kind = 7
  · rw [if_pos k8]; (simp only [sumS_append, sumS_cons, sumS_nil, List.length_append, List.length_cons, List.length_nil, List.length_map, hll]; constructor <;> omega)
  rw [if_neg k8]
  by_cases k9 : v.kind = 8
  · rw [if_pos k9]; (simp only [sumS_append, sumS_cons, sumS_nil, List.length_append, List.length_cons, List.length_nil, List.length_map, hll]; constructor <;> omega)
  rw [if_neg k9]
  by_cases k10 : v.kind = 9
  · rw [if_pos k10]; (simp only [sumS_append, sumS_cons, sumS_nil, List.length_append, List.length_cons, List.length_nil, List.length_map, hll]; constructor <;> omega)
  rw [if_neg k10]
  by_cases k11 : v.kind = 10
  · rw [if_pos k11]; (simp only [sumS_append, sumS_cons, sumS_nil, List.length_append, List.length_cons, List.length_nil, List.length_map, hll]; constructor <;> omega)
  rw [if_neg k11]
  exact ⟨by decide, by rw [sumS_nil]; exact Nat.zero_le _⟩
theorem textT_size {v : StepV} (h : OkStep v) : (textT v).size ≤ 140737488355328 := by
  have h1 := joinS_sum (textW v) spaceS
  obtain ⟨h2, h3⟩ := textW_bound h
  have e : spaceS.size = 1 := rfl
  rw [e, Nat.mul_one] at h1
  unfold textT
  omega
end Go.Proofs.YtdlgedpmbeafdaaGreatDoor.Aw

set_option maxRecDepth 100000
set_option linter.unusedVariables false
set_option linter.unusedSimpArgs false
namespace Go.Proofs.YtdlgedpmbeafdaaGreatDoor.Aw
open Go Go.RowKit
variable {G : Nat → Option (List AV)}

theorem Tx.more {S₀ S : St} {b bb : Nat} {l : List ByteArray} (h : Tx S₀ S b l) (hb : S bb = none) (o : Own) : Tx S₀ (S.upd bb o) b l := by
  obtain ⟨t, h⟩ := h
  have hk : ∀ x p, S x = some p → (S.upd bb o) x = some p := fun x p hx => by rw [St.upd_ne _ _ _ _ (St.ne_of hb hx)]; exact hx
  exact ⟨t, fun x p hx => hk _ _ (h.le x p hx), h.new, hk _ _ h.at_, h.tip.keep (hk _)⟩
theorem Tx.le {S₀ S : St} {b : Nat} {l : List ByteArray} (h : Tx S₀ S b l) : St.le S₀ S := by obtain ⟨t, h⟩ := h; exact h.le
theorem text_ok (hG : G10 G) (v : StepV) (h : OkStep v) (S : St) : Triple P (C G) 28 [stepAV v] S fun o S' => o = .ret (.str (textT v)) ∧ S' = S := by
  have hjoin := fun S => join_ok (G := G) (textW v) spaceS (by have := (textW_bound h).1; omega) (textT_size h) S
  have hrowt := fun S => rowText_ok hG v.pieces v.bound h.row S
  have hends := fun S => ends_ok (G := G) v h S
  have hlt := fun S => litTexts_ok hG v.lits h.lits.2 (by have := h.lits.1; omega) S
  have hop := fun o (ho : o ∈ v.ops) S => opText_ok hG o (h.ops.2 o ho).1 (by have := (h.ops.2 o ho).2; omega) S
  have m1 := h.ops.1
  have m2 := h.ids.1
  have m3 : (litsT v.lits).length ≤ 1000000 := by have := h.lits.1; simpa [litsT] using this
  clear h
  unfold textT
  unfold textW at *
  obtain ⟨kind, num, ops, pieces, bound, lits, ids, n6, s7, s8⟩ := v
  unfold stepAV at *
  dsimp only at *
  generalize rowT pieces bound = rt at *
  generalize endT _ = et at *
  generalize litsT lits = lt at *
  refine triple_of_awp (hT G) hm Tryz.func28 rfl (by decide +kernel) rfl (by decide +kernel) (by show 1 ≤ _; decide +kernel) rfl ?_
  refine awp_seq2 fun K hK hQ => ?_
  conv => whnf
  intro b1 hb1
  conv => whnf
  refine hK _ _ ?_
  clear hK hQ K
  have q1 := St.upd_same S b1 (.obj 40 [.int .i64 kind, .str num, .sl .any 3 (rowsO ops), .sl .any 2 (rowsP pieces), .str bound, .sl .any 1 (rowsI lits), .sl .any 1 (rowsS ids), .int .i64 n6, .str s7, .str s8])
  have hle := St.le_upd' (St.le_refl S) hb1 (.obj 40 [.int .i64 kind, .str num, .sl .any 3 (rowsO ops), .sl .any 2 (rowsP pieces), .str bound, .sl .any 1 (rowsI lits), .sl .any 1 (rowsS ids), .int .i64 n6, .str s7, .str s8])
  generalize S.upd b1 (.obj 40 [.int .i64 kind, .str num, .sl .any 3 (rowsO ops), .sl .any 2 (rowsP pieces), .str bound, .sl .any 1 (rowsI lits), .sl .any 1 (rowsS ids), .int .i64 n6, .str s7, .str s8]) = S1 at *
  refine awp_seq2 fun K hK hQ => ?_
  conv => whnf
  intro b3 hb3
  conv => whnf
  refine hK _ _ ?_
  clear hK hQ K
  obtain ⟨Sf, hwf, hxf⟩ := Tx.new hb3
  have hfresh : ∀ bb o, (S1.upd b3 (.obj 32 [.nils])) bb = none → Tx S1 (Sf.upd bb o) b3 [] ∧ St.leW (Sf.upd bb o) ((S1.upd b3 (.obj 32 [.nils])).upd bb o) := fun bb o hbb => ⟨hxf.more (St.leW_none hwf hbb) o, St.leW_over hwf bb o⟩
  have q13 : (S1.upd b3 (.obj 32 [.nils])) b1 = _ := St.up hb3 q1
  have qn := St.upd_same S1 b3 (.obj 32 [.nils])
  have hle3 := St.le_upd' (St.le_refl S1) hb3 (.obj 32 [.nils])
  generalize S1.upd b3 (.obj 32 [.nils]) = S2 at *
  refine awp_seq2 fun K hK hQ => ?_
  conv => whnf
  refine hK _ _ ?_
  clear hK hQ K
  refine awp_seq2 fun K hK hQ => ?_
  conv => whnf
  refine ⟨_, _, q13, ?_⟩
  conv => whnf
  refine split_of (fun hh => ?_) (fun hh => ?_)
  · have hh : kind = 1 := by simpa using hh
    rw [if_pos hh] at hjoin hK
    conv => whnf
    -- the first words: [w1S] the list, 1 how many
    intro bb hbb
    conv => whnf
    refine (Triple.weakS (say_ok (hfresh bb (.tip 9 1 1) hbb).1 ([w1S]) (by simp) _) (hfresh bb (.tip 9 1 1) hbb).2).mono ?_
    rintro o S' ⟨rfl, hx⟩
    rw [List.nil_append] at hx
    have q := hx.le _ _ q1
    conv => whnf
    refine hK _ _ ?_
    clear hK hQ K
    obtain ⟨t, hx⟩ := hx
    conv => whnf
    refine ⟨_, _, hx.at_, ?_⟩
    conv => whnf
    refine Triple.use (hjoin _) (by exact ⟨⟨rfl, rfl⟩, rfl, trivial⟩) ?_
    rintro o T ⟨rfl, rfl⟩
    conv => whnf
    exact ⟨_, _, ⟨rfl, rfl⟩, St.le_trans hle hx.le, AV.leS_refl _ _ _⟩
  have n1 : ¬ kind = 1 := by simpa using hh
  rw [if_neg n1] at hjoin hK
  conv => whnf
  refine split_of (fun hh => ?_) (fun hh => ?_)
  · have hh : kind = 2 := by simpa using hh
    rw [if_pos hh] at hjoin hK
    conv => whnf
    refine ⟨_, _, q13, ?_⟩
    conv => whnf
    -- the first words: [kF, num] the list, 2 how many
    intro bb hbb
    conv => whnf
    refine (Triple.weakS (say_ok (hfresh bb (.tip 9 1 2) hbb).1 ([kF, num]) (by simp) _) (hfresh bb (.tip 9 1 2) hbb).2).mono ?_
    rintro o S' ⟨rfl, hx⟩
    rw [List.nil_append] at hx
    have q := hx.le _ _ q1
    conv => whnf
    refine hK _ _ ?_
    clear hK hQ K
    obtain ⟨t, hx⟩ := hx
    conv => whnf
    refine ⟨_, _, hx.at_, ?_⟩
    conv => whnf
    refine Triple.use (hjoin _) (by exact ⟨⟨rfl, rfl⟩, rfl, trivial⟩) ?_
    rintro o T ⟨rfl, rfl⟩
    conv => whnf
    exact ⟨_, _, ⟨rfl, rfl⟩, St.le_trans hle hx.le, AV.leS_refl _ _ _⟩
  have n2 : ¬ kind = 2 := by simpa using hh
  rw [if_neg n2] at hjoin hK
  conv => whnf
  refine split_of (fun hh => ?_) (fun hh => ?_)
  · have hh : kind = 3 := by simpa using hh
    rw [if_pos hh] at hjoin hK
    conv => whnf
    -- the first words: [kPol] the list, 1 how many
    intro bb hbb
    conv => whnf
    refine (Triple.weakS (say_ok (hfresh bb (.tip 9 1 1) hbb).1 ([kPol]) (by simp) _) (hfresh bb (.tip 9 1 1) hbb).2).mono ?_
    rintro o S' ⟨rfl, hx⟩
    rw [List.nil_append] at hx
    have q := hx.le _ _ q1
    conv => whnf
    refine ⟨_, _, q, ?_⟩
    conv => whnf
    intro _
    conv => whnf
    refine ⟨⟨Nat, fun i => [(1, .ref b1 0), (3, .ref b3 0), (4, .fn (.func 47) [] [.ref b3 0]), (28, .sl .any 3 (rowsO ops)), (29, .int .i64 (ops.length : Int)), (30, .int .i64 (i : Int))],
      fun i T => Tx S1 T b3 ([kPol] ++ (ops.take i).map opT) ∧ i ≤ ops.length, fun i => ops.length - i⟩,
      ⟨0, ⟨rfl, rfl, rfl, ⟨rfl, rfl⟩, congrArg (AV.int .i64) (by rw [rowsO_len]), rfl, trivial⟩, _, St.leW_refl _, hx, by omega⟩, ?_⟩
    clear hx q
    rintro (i : Nat) T ⟨hx, hi⟩
    conv => whnf
    refine split_of (fun hlt => ?_) (fun hlt => ?_)
    · have hlt : i < ops.length := by have := of_decide_eq_true hlt; omega
      have hsn : (ops.take (i + 1)).map opT = (ops.take i).map opT ++ [opT ops[i]] := by
        have ht : ops.take (i + 1) = ops.take i ++ [ops[i]] := by simp [List.take_append_getElem]
        rw [ht, List.map_append]; rfl
      have hll : ((ops.take i).map opT).length = i := by simp; omega
      have hgr : (rowsO ops)[(i : Int).toNat]? = some [.int .i64 ops[i].1, .str ops[i].2.1, .int .i64 ops[i].2.2] := by simp [rowsO, hlt]
      have hopi := hop ops[i] (List.getElem_mem hlt)
      generalize ops[i] = op at *
      clear hK hQ
      conv => whnf
      refine ⟨_, ⟨by omega, hgr⟩, ?_⟩
      conv => whnf
      intro b6 hb6
      conv => whnf
      refine ⟨_, _, St.upd_same _ _ _, ?_⟩
      conv => whnf
      rw [St.upd_upd]
      refine ⟨_, _, St.upd_same _ _ _, ?_⟩
      conv => whnf
      refine (hopi _).mono ?_
      rintro o S3 ⟨rfl, rfl⟩
      conv => whnf
      intro bb2 hbb2
      conv => whnf
      refine (say_ok ((hx.more hb6 _).more hbb2 (.tip 9 1 1)) [opT op] (by simp at hll ⊢; omega) _).mono ?_
      rintro o S' ⟨rfl, hx2⟩
      have w1 : IntKind.i64.wrap ((i : Int) + 1) = ((i + 1 : Nat) : Int) := wrap_nat (by omega)
      conv => whnf
      refine ⟨i + 1, ⟨rfl, rfl, rfl, ⟨rfl, rfl⟩, rfl, congrArg _ w1, trivial⟩, ⟨_, St.leW_refl _, by rw [hsn, ← List.append_assoc]; exact hx2, by omega⟩, by show ops.length - (i + 1) < ops.length - i; omega⟩
    · have hlt : i = ops.length := by have := of_decide_eq_false hlt; omega
      subst hlt
      rw [List.take_length] at hx
      conv => whnf
      refine hK _ _ ?_
      clear hK hQ K
      obtain ⟨t, hx⟩ := hx
      conv => whnf
      refine ⟨_, _, hx.at_, ?_⟩
      conv => whnf
      refine Triple.use (hjoin _) (by exact ⟨⟨rfl, rfl⟩, rfl, trivial⟩) ?_
      rintro o T ⟨rfl, rfl⟩
      conv => whnf
      exact ⟨_, _, ⟨rfl, rfl⟩, St.le_trans hle hx.le, AV.leS_refl _ _ _⟩
  have n3 : ¬ kind = 3 := by simpa using hh
  rw [if_neg n3] at hjoin hK
  conv => whnf
  refine split_of (fun hh => ?_) (fun hh => ?_)
  · have hh : kind = 4 := by simpa using hh
    rw [if_pos hh] at hjoin hK
    conv => whnf
    refine ⟨_, _, q13, ?_⟩
    conv => whnf
    refine (hrowt _).mono ?_
    rintro o S3 ⟨rfl, rfl⟩
    conv => whnf
    -- the first words: [kRup, rt] the list, 2 how many
    intro bb hbb
    conv => whnf
    refine (Triple.weakS (say_ok (hfresh bb (.tip 9 1 2) hbb).1 ([kRup, rt]) (by simp) _) (hfresh bb (.tip 9 1 2) hbb).2).mono ?_
    rintro o S' ⟨rfl, hx⟩
    rw [List.nil_append] at hx
    have q := hx.le _ _ q1
    conv => whnf
    refine ⟨_, _, q, ?_⟩
    conv => whnf
    refine (say_ok hx ids (by simp; omega) _).mono ?_
    rintro o S' ⟨rfl, hx⟩
    have q := hx.le _ _ q1
    conv => whnf
    refine hK _ _ ?_
    clear hK hQ K
    obtain ⟨t, hx⟩ := hx
    conv => whnf
    refine ⟨_, _, hx.at_, ?_⟩
    conv => whnf
    refine Triple.use (hjoin _) (by exact ⟨⟨rfl, rfl⟩, rfl, trivial⟩) ?_
    rintro o T ⟨rfl, rfl⟩
    conv => whnf
    exact ⟨_, _, ⟨rfl, rfl⟩, St.le_trans hle hx.le, AV.leS_refl _ _ _⟩
  have n4 : ¬ kind = 4 := by simpa using hh
  rw [if_neg n4] at hjoin hK
  conv => whnf
  refine split_of (fun hh => ?_) (fun hh => ?_)
  · have hh : kind = 12 := by simpa using hh
    rw [if_pos hh] at hjoin hK
    conv => whnf
    -- the first words: [kE] the list, 1 how many
    intro bb hbb
    conv => whnf
    refine (Triple.weakS (say_ok (hfresh bb (.tip 9 1 1) hbb).1 ([kE]) (by simp) _) (hfresh bb (.tip 9 1 1) hbb).2).mono ?_
    rintro o S' ⟨rfl, hx⟩
    rw [List.nil_append] at hx
    have q := hx.le _ _ q1
    conv => whnf
    refine ⟨_, _, q, ?_⟩
    conv => whnf
    refine (say_ok hx ids (by simp; omega) _).mono ?_
    rintro o S' ⟨rfl, hx⟩
    have q := hx.le _ _ q1
    conv => whnf
    refine ⟨_, _, q, ?_⟩
    conv => whnf
    refine (hrowt _).mono ?_
    rintro o S3 ⟨rfl, rfl⟩
    conv => whnf
    intro bb2 hbb2
    conv => whnf
    refine (say_ok (hx.more hbb2 (.tip 9 1 1)) [rt] (by simp; omega) _).mono ?_
    rintro o S' ⟨rfl, hx⟩
    conv => whnf
    refine hK _ _ ?_
    clear hK hQ K
    obtain ⟨t, hx⟩ := hx
    conv => whnf
    refine ⟨_, _, hx.at_, ?_⟩
    conv => whnf
    refine Triple.use (hjoin _) (by exact ⟨⟨rfl, rfl⟩, rfl, trivial⟩) ?_
    rintro o T ⟨rfl, rfl⟩
    conv => whnf
    exact ⟨_, _, ⟨rfl, rfl⟩, St.le_trans hle hx.le, AV.leS_refl _ _ _⟩
  have n12 : ¬ kind = 12 := by simpa using hh
  rw [if_neg n12] at hjoin hK
  conv => whnf
  refine split_of (fun hh => ?_) (fun hh => ?_)
  · have hh : kind = 5 := by simpa using hh
    rw [if_pos hh] at hjoin hK
    conv => whnf
    -- the first words: [kSoli] the list, 1 how many
    intro bb hbb
    conv => whnf
    refine (Triple.weakS (say_ok (hfresh bb (.tip 9 1 1) hbb).1 ([kSoli]) (by simp) _) (hfresh bb (.tip 9 1 1) hbb).2).mono ?_
    rintro o S' ⟨rfl, hx⟩
    rw [List.nil_append] at hx
    have q := hx.le _ _ q1
    conv => whnf
    refine ⟨_, _, q, ?_⟩
    conv => whnf
    refine (hlt _).mono ?_
    rintro o S3 ⟨rfl, rfl⟩
    conv => whnf
    refine (say_ok hx lt (by simp; omega) _).mono ?_
    rintro o S' ⟨rfl, hx⟩
    conv => whnf
    refine hK _ _ ?_
    clear hK hQ K
    obtain ⟨t, hx⟩ := hx
    conv => whnf
    refine ⟨_, _, hx.at_, ?_⟩
    conv => whnf
    refine Triple.use (hjoin _) (by exact ⟨⟨rfl, rfl⟩, rfl, trivial⟩) ?_
    rintro o T ⟨rfl, rfl⟩
    conv => whnf
    exact ⟨_, _, ⟨rfl, rfl⟩, St.le_trans hle hx.le, AV.leS_refl _ _ _⟩
  have n5 : ¬ kind = 5 := by simpa using hh
  rw [if_neg n5] at hjoin hK
  conv => whnf
  refine split_of (fun hh => ?_) (fun hh => ?_)
  · have hh : kind = 11 := by simpa using hh
    rw [if_pos hh] at hjoin hK
    conv => whnf
    -- the first words: [kSolx] the list, 1 how many
    intro bb hbb
    conv => whnf
    refine (Triple.weakS (say_ok (hfresh bb (.tip 9 1 1) hbb).1 ([kSolx]) (by simp) _) (hfresh bb (.tip 9 1 1) hbb).2).mono ?_
    rintro o S' ⟨rfl, hx⟩
    rw [List.nil_append] at hx
    have q := hx.le _ _ q1
    conv => whnf
    refine ⟨_, _, q, ?_⟩
    conv => whnf
    refine (hlt _).mono ?_
    rintro o S3 ⟨rfl, rfl⟩
    conv => whnf
    refine (say_ok hx lt (by simp; omega) _).mono ?_
    rintro o S' ⟨rfl, hx⟩
    conv => whnf
    refine hK _ _ ?_
    clear hK hQ K
    obtain ⟨t, hx⟩ := hx
    conv => whnf
    refine ⟨_, _, hx.at_, ?_⟩
    conv => whnf
    refine Triple.use (hjoin _) (by exact ⟨⟨rfl, rfl⟩, rfl, trivial⟩) ?_
    rintro o T ⟨rfl, rfl⟩
    conv => whnf
    exact ⟨_, _, ⟨rfl, rfl⟩, St.le_trans hle hx.le, AV.leS_refl _ _ _⟩
  have n11 : ¬ kind = 11 := by simpa using hh
  rw [if_neg n11] at hjoin hK
  conv => whnf
  refine split_of (fun hh => ?_) (fun hh => ?_)
  · have hh : kind = 6 := by simpa using hh
    rw [if_pos hh] at hjoin hK
    conv => whnf
    -- the first words: [kDel, ⟨#[105, 100]⟩] the list, 2 how many
    intro bb hbb
    conv => whnf
    refine (Triple.weakS (say_ok (hfresh bb (.tip 9 1 2) hbb).1 ([kDel, ⟨#[105, 100]⟩]) (by simp) _) (hfresh bb (.tip 9 1 2) hbb).2).mono ?_
    rintro o S' ⟨rfl, hx⟩
    rw [List.nil_append] at hx
    have q := hx.le _ _ q1
    conv => whnf
    refine ⟨_, _, q, ?_⟩
    conv => whnf
    refine (say_ok hx ids (by simp; omega) _).mono ?_
    rintro o S' ⟨rfl, hx⟩
    have q := hx.le _ _ q1
    conv => whnf
    refine hK _ _ ?_
    clear hK hQ K
    obtain ⟨t, hx⟩ := hx
    conv => whnf
    refine ⟨_, _, hx.at_, ?_⟩
    conv => whnf
    refine Triple.use (hjoin _) (by exact ⟨⟨rfl, rfl⟩, rfl, trivial⟩) ?_
    rintro o T ⟨rfl, rfl⟩
    conv => whnf
    exact ⟨_, _, ⟨rfl, rfl⟩, St.le_trans hle hx.le, AV.leS_refl _ _ _⟩
  have n6 : ¬ kind = 6 := by simpa using hh
  rw [if_neg n6] at hjoin hK
  conv => whnf
  refine split_of (fun hh => ?_) (fun hh => ?_)
  · have hh : kind = 7 := by simpa using hh
    rw [if_pos hh] at hjoin hK
    conv => whnf
    -- the first words: [kStar] the list, 1 how many
    intro bb hbb
    conv => whnf
    refine (Triple.weakS (say_ok (hfresh bb (.tip 9 1 1) hbb).1 ([kStar]) (by simp) _) (hfresh bb (.tip 9 1 1) hbb).2).mono ?_
    rintro o S' ⟨rfl, hx⟩
    rw [List.nil_append] at hx
    have q := hx.le _ _ q1
    conv => whnf
    refine hK _ _ ?_
    clear hK hQ K
    obtain ⟨t, hx⟩ := hx
    conv => whnf
    refine ⟨_, _, hx.at_, ?_⟩
    conv => whnf
    refine Triple.use (hjoin _) (by exact ⟨⟨rfl, rfl⟩, rfl, trivial⟩) ?_
    rintro o T ⟨rfl, rfl⟩
    conv => whnf
    exact ⟨_, _, ⟨rfl, rfl⟩, St.le_trans hle hx.le, AV.leS_refl _ _ _⟩
  have n7 : ¬ kind = 7 := by simpa using hh
  rw [if_neg n7] at hjoin hK
  conv => whnf
  refine split_of (fun hh => ?_) (fun hh => ?_)
  · have hh : kind = 8 := by simpa using hh
    rw [if_pos hh] at hjoin hK
    conv => whnf
    -- the first words: [w8S] the list, 1 how many
    intro bb hbb
    conv => whnf
    refine (Triple.weakS (say_ok (hfresh bb (.tip 9 1 1) hbb).1 ([w8S]) (by simp) _) (hfresh bb (.tip 9 1 1) hbb).2).mono ?_
    rintro o S' ⟨rfl, hx⟩
    rw [List.nil_append] at hx
    have q := hx.le _ _ q1
    conv => whnf
    refine hK _ _ ?_
    clear hK hQ K
    obtain ⟨t, hx⟩ := hx
    conv => whnf
    refine ⟨_, _, hx.at_, ?_⟩
    conv => whnf
    refine Triple.use (hjoin _) (by exact ⟨⟨rfl, rfl⟩, rfl, trivial⟩) ?_
    rintro o T ⟨rfl, rfl⟩
    conv => whnf
    exact ⟨_, _, ⟨rfl, rfl⟩, St.le_trans hle hx.le, AV.leS_refl _ _ _⟩
  have n8 : ¬ kind = 8 := by simpa using hh
  rw [if_neg n8] at hjoin hK
  conv => whnf
  refine split_of (fun hh => ?_) (fun hh => ?_)
  · have hh : kind = 9 := by simpa using hh
    rw [if_pos hh] at hjoin hK
    conv => whnf
    refine ⟨_, _, q13, ?_⟩
    conv => whnf
    refine (hends _).mono ?_
    rintro o S3 ⟨rfl, rfl⟩
    conv => whnf
    -- the first words: [kConc, et] the list, 2 how many
    intro bb hbb
    conv => whnf
    refine (Triple.weakS (say_ok (hfresh bb (.tip 9 1 2) hbb).1 ([kConc, et]) (by simp) _) (hfresh bb (.tip 9 1 2) hbb).2).mono ?_
    rintro o S' ⟨rfl, hx⟩
    rw [List.nil_append] at hx
    have q := hx.le _ _ q1
    conv => whnf
    refine hK _ _ ?_
    clear hK hQ K
    obtain ⟨t, hx⟩ := hx
    conv => whnf
    refine ⟨_, _, hx.at_, ?_⟩
    conv => whnf
    refine Triple.use (hjoin _) (by exact ⟨⟨rfl, rfl⟩, rfl, trivial⟩) ?_
    rintro o T ⟨rfl, rfl⟩
    conv => whnf
    exact ⟨_, _, ⟨rfl, rfl⟩, St.le_trans hle hx.le, AV.leS_refl _ _ _⟩
  have n9 : ¬ kind = 9 := by simpa using hh
  rw [if_neg n9] at hjoin hK
  conv => whnf
  refine split_of (fun hh => ?_) (fun hh => ?_)
  · have hh : kind = 10 := by simpa using hh
    rw [if_pos hh] at hjoin hK
    conv => whnf
    -- the first words: [w10S] the list, 1 how many
    intro bb hbb
    conv => whnf
    refine (Triple.weakS (say_ok (hfresh bb (.tip 9 1 1) hbb).1 ([w10S]) (by simp) _) (hfresh bb (.tip 9 1 1) hbb).2).mono ?_
    rintro o S' ⟨rfl, hx⟩
    rw [List.nil_append] at hx
    have q := hx.le _ _ q1
    conv => whnf
    refine hK _ _ ?_
    clear hK hQ K
    obtain ⟨t, hx⟩ := hx
    conv => whnf
    refine ⟨_, _, hx.at_, ?_⟩
    conv => whnf
    refine Triple.use (hjoin _) (by exact ⟨⟨rfl, rfl⟩, rfl, trivial⟩) ?_
    rintro o T ⟨rfl, rfl⟩
    conv => whnf
    exact ⟨_, _, ⟨rfl, rfl⟩, St.le_trans hle hx.le, AV.leS_refl _ _ _⟩
  have n10 : ¬ kind = 10 := by simpa using hh
  rw [if_neg n10] at hjoin hK
  conv => whnf
  refine hK _ _ ?_
  clear hK hQ K
  conv => whnf
  refine ⟨_, _, qn, ?_⟩
  conv => whnf
  refine Triple.use (hjoin _) (by exact ⟨rfl, rfl, trivial⟩) ?_
  rintro o T ⟨rfl, rfl⟩
  conv => whnf
  exact ⟨_, _, ⟨rfl, rfl⟩, St.le_trans hle hle3, AV.leS_refl _ _ _⟩
end Go.Proofs.YtdlgedpmbeafdaaGreatDoor.Aw

/- errors.As at a target **api.Fault: turned from the worked proof of the toy 'toyas'. errors.As in the abstract walk's wor -/
import Derived.Test.YtogipknpafkfpaaGreatDoorPwr10
import Derived.WalkKit
import Derived.LaidEql
import Derived.Stop.Asserts
import Derived.RowKitTokens
import Derived.Test.YtogipknpafkfpaaGreatDoorPwr7
import Derived.Lib.ItoaLen
set_option linter.all false
set_option maxRecDepth 100000
namespace Go.Proofs.YtogipknpafkfpaaGreatDoor.Aw
open Go Go.RowKit Go.Extern.Stop Go.Stop Go.Extern
variable {G:Nat→Option (List AV)}
theorem as_nil(t:Value)(w:World) :
 Calls Tryz.prog 67 #[.nilIface,t] w fun e w'=>e=.returned (.bool false)∧w'=w:=by
 go_enter Tryz.func67,Tryz.ntmps67
 go_wp2
 go_ret
 exact⟨rfl,rfl⟩
theorem As.valueOf2(t:Addr)(w:World):(ReflectliteValue.unpack (.iface 121 (.pointer (some t)))).run Tryz.prog w
 = .ok (.agg #[.pointer (some ⟨7,121,none⟩),.pointer (some ⟨w.heap.size,0,none⟩),.int .u64 150]) (w.alloc (.cells #[.pointer (some t)] 121)):=by kernel_rfl
theorem As.type2(a : Addr)(w : World) : (ReflectliteValue.methodAny (ReflectliteValue.valueError "reflectlite.Value.Type" 0) (fun t _ _ _ => ReflectliteType.toType t) #[.agg #[.pointer (some ⟨7, 121, none⟩), .pointer (some a), .int .u64 150]]).run Tryz.prog w
 = .ok (.iface 196 (.agg #[.pointer (some ⟨7,121,none⟩)])) w:=by kernel_rfl
theorem As.methodKind(h : Value)(w : World) : (Go.method 422 196 (.agg #[h]) "Kind").run Tryz.prog w = .ok (226, h) w := by kernel_rfl
theorem As.kind2(w:World):((ReflectliteType.abiMethod fun t=>(fun a:Nat=>Value.int IntKind.u8 (a:Int)) <$> Rtype.kind t) #[.pointer (some ⟨7,121,none⟩)]).run Tryz.prog w=.ok (.int .u8 22) w:=by kernel_rfl
theorem As.kind1(w:World):((ReflectliteType.abiMethod fun t=>(fun a:Nat=>Value.int IntKind.u8 (a:Int)) <$> Rtype.kind t) #[.pointer (some ⟨7,90,none⟩)]).run Tryz.prog w=.ok (.int .u8 22) w:=by kernel_rfl
theorem As.rlm(z:Sem Value)(f:TypeId→Addr→Nat→Nat→Sem Value)(v:Value) :
 ReflectliteValue.method z f #[v]=(do match ← ReflectliteValue.parts v with | none=>z | some (t,a,fl)=>f t a fl (fl % 32)):=rfl
theorem As.parts2(a:Addr)(w:World):(ReflectliteValue.parts (.agg #[.pointer (some ⟨7,121,none⟩),.pointer (some a),.int .u64 150])).run Tryz.prog w=.ok (some (121,a,150)) w:=by kernel_rfl
theorem As.isNil2(a p:Addr)(W:World)(ha:W.cell? a=some (.pointer (some p))) :
 (ReflectliteValue.method (ReflectliteValue.valueError "reflectlite.Value.IsNil" 0) ReflectliteValue.isNil #[.agg #[.pointer (some ⟨7, 121, none⟩), .pointer (some a), .int .u64 150]]).run Tryz.prog W = .ok (.bool false) W := by
 rw[As.rlm];simp only[Sem.run_bind,As.parts2,Result.andThen]
 simp[ReflectliteValue.isNil,loadVar,isAgg,underlying,Tryz.underlying121,ha,Result.andThen]
theorem As.methodElem(h : Value)(w : World) : (Go.method 422 196 (.agg #[h]) "Elem").run Tryz.prog w = .ok (239, .agg #[h]) w := by kernel_rfl
theorem As.methodImplements(h : Value)(w : World) : (Go.method 422 196 (.agg #[h]) "Implements").run Tryz.prog w = .ok (240, .agg #[h]) w := by kernel_rfl
theorem As.methodAssignableTo(h : Value)(w : World) : (Go.method 422 196 (.agg #[h]) "AssignableTo").run Tryz.prog w = .ok (237, .agg #[h]) w := by kernel_rfl
theorem As.elem2(w:World):(ReflectliteType.method ReflectliteType.elem #[.agg #[.pointer (some ⟨7,121,none⟩)]]).run Tryz.prog w=.ok (.iface 196 (.agg #[.pointer (some ⟨7,90,none⟩)])) w:=by kernel_rfl
theorem As.implements1(w : World) : (ReflectliteType.relation "Implements" ReflectliteType.implements_ #[.agg #[.pointer (some ⟨7, 90, none⟩)], .iface 196 (.agg #[.pointer (some ⟨7, 66, none⟩)])]).run Tryz.prog w = .ok (.bool true) w := by kernel_rfl
theorem As.typeOf1(v:Value)(w:World):(ReflectliteType.typeOf #[.iface 90 v]).run Tryz.prog w=.ok (.iface 196 (.agg #[.pointer (some ⟨7,90,none⟩)])) w:=by kernel_rfl
theorem As.assignable1(w : World) : (ReflectliteType.relation "AssignableTo" ReflectliteType.assignableTo #[.agg #[.pointer (some ⟨7, 90, none⟩)], .iface 196 (.agg #[.pointer (some ⟨7, 90, none⟩)])]).run Tryz.prog w = .ok (.bool true) w := by kernel_rfl
theorem As.valueOf1(e:Addr)(w:World):(ReflectliteValue.unpack (.iface 90 (.pointer (some e)))).run Tryz.prog w
 = .ok (.agg #[.pointer (some ⟨7,90,none⟩),.pointer (some ⟨w.heap.size,0,none⟩),.int .u64 150]) (w.alloc (.cells #[.pointer (some e)] 90)):=by kernel_rfl
theorem As.elemOf2(w:World):(Rtype.elem? 121).run Tryz.prog w=.ok (some 90) w:=by kernel_rfl
theorem As.mk1(p:Addr)(w:World):(ReflectliteValue.mk 90 p ReflectliteValue.flagAddr).run Tryz.prog w=.ok (.agg #[.pointer (some ⟨7,90,none⟩),.pointer (some p),.int .u64 406]) w:=by kernel_rfl
theorem As.elemV2(a p:Addr)(W:World)(ha:W.cell? a=some (.pointer (some p))) :
 (ReflectliteValue.method (ReflectliteValue.valueError "reflectlite.Value.Elem" 0) ReflectliteValue.elem #[.agg #[.pointer (some ⟨7, 121, none⟩), .pointer (some a), .int .u64 150]]).run Tryz.prog W
   = .ok (.agg #[.pointer (some ⟨7,90,none⟩),.pointer (some p),.int .u64 406]) W:=by
 rw[As.rlm];simp only[Sem.run_bind,As.parts2,Result.andThen]
 simp[ReflectliteValue.elem,loadVar,isAgg,underlying,Tryz.underlying121,ha,Result.andThen,As.elemOf2,As.mk1]
theorem As.rls(v x:Value):ReflectliteValue.set #[v,x]=(do
 let (some (dst,a,fl),some (src,b,_)):=(← ReflectliteValue.parts v,← ReflectliteValue.parts x)
  | unsupported (.noEntry "extern/(internal/reflectlite.Value).Set.zeroValue")
 if fl / ReflectliteValue.flagAddr % 2 == 0 then unsupported (.noEntry "extern/(internal/reflectlite.Value).Set.unaddressable")
 let val ← loadVar src b
 if ← Rtype.directlyAssignable dst src then storeVar dst a val
 else if ← Rtype.implements dst src then
  if (← Rtype.kind src) == 20 then
   match val with
   | .nilIface => unsupported (.noEntry "extern/reflectlite: a nil value of one interface type handed on as a value of another")
   | _=>storeVar dst a val
  else storeVar dst a (.iface src val)
 else panicString ("reflectlite.Set: value of type " ++ (← Rtype.spelt src) ++ " is not assignable to type " ++ (← Rtype.spelt dst))
 pure (.tuple #[])):=rfl
theorem As.parts1a(a:Addr)(w:World):(ReflectliteValue.parts (.agg #[.pointer (some ⟨7,90,none⟩),.pointer (some a),.int .u64 406])).run Tryz.prog w=.ok (some (90,a,406)) w:=by kernel_rfl
theorem As.parts1(a:Addr)(w:World):(ReflectliteValue.parts (.agg #[.pointer (some ⟨7,90,none⟩),.pointer (some a),.int .u64 150])).run Tryz.prog w=.ok (some (90,a,150)) w:=by kernel_rfl
theorem As.direct1(w:World):(Rtype.directlyAssignable 90 90).run Tryz.prog w=.ok true w:=by kernel_rfl
theorem As.set1(ta b e:Addr)(old:Value)(W:World)(hb:W.cell? b=some (.pointer (some e)))(ht:W.cell? ta=some old)(hf:W.frozen? ta=false) :
 (ReflectliteValue.set #[.agg #[.pointer (some ⟨7,90,none⟩),.pointer (some ta),.int .u64 406],.agg #[.pointer (some ⟨7,90,none⟩),.pointer (some b),.int .u64 150]]).run Tryz.prog W
   = .ok (.tuple #[]) (W.setCell ta (.pointer (some e))):=by
 rw[As.rls];simp only[Sem.run_bind,As.parts1a,As.parts1,Result.andThen]
 simp[ReflectliteValue.flagAddr,loadVar,isAgg,underlying,Tryz.underlying90,hb,Result.andThen,As.direct1,storeVar,Value.cells,storeCells,Addr.add]
 rw[run_store Tryz.prog W ta _ _ (by rfl)]
 simp[ht,hf]
set_option maxHeartbeats 4000000 in
theorem as_hit(e t:Addr)(old:Value)(w:World)(hg:w.cell? ⟨0,0,none⟩=some (.iface 196 (.agg #[.pointer (some ⟨7,66,none⟩)])))(ht0:w.cell? t=some old)(hf0:w.frozen? t=false) :
 Calls Tryz.prog 67 #[.iface 90 (.pointer (some e)),.iface 121 (.pointer (some t))] w fun ev w'=>ev=.returned (.bool true)∧w'=((((w.alloc (.cells #[.pointer (some t)] 121)).alloc (.cells #[.pointer (some ⟨7,121,none⟩),.pointer (some ⟨w.heap.size,0,none⟩),.int .u64 150] 175)).alloc (.cells #[.pointer (some ⟨7,121,none⟩),.pointer (some ⟨w.heap.size,0,none⟩),.int .u64 150] 175)).alloc (.cells #[.pointer (some e)] 90)).setCell t (.pointer (some e)):=by
 have h6:=@run_callFunc_extern Tryz.prog 96 _ (fun args=>ReflectliteValue.unpack (args.getD 0 (.tuple #[]))) Tryz.func96 (by kernel_rfl) (by kernel_rfl) (by kernel_rfl) (by kernel_rfl)
 have h7 := @run_callFunc_extern Tryz.prog 97 _ (ReflectliteValue.methodAny (ReflectliteValue.valueError "reflectlite.Value.Type" 0) (fun t _ _ _ => ReflectliteType.toType t)) Tryz.func97 (by kernel_rfl) (by kernel_rfl) (by kernel_rfl) (by kernel_rfl)
 have h8 := @run_callFunc_extern Tryz.prog 98 _ (ReflectliteValue.method (ReflectliteValue.valueError "reflectlite.Value.IsNil" 0) ReflectliteValue.isNil) Tryz.func98 (by kernel_rfl) (by kernel_rfl) (by kernel_rfl) (by kernel_rfl)
 have h27:=@run_callFunc_extern Tryz.prog 226 _ (ReflectliteType.abiMethod fun t=>do pure (.int .u8 (← Rtype.kind t))) Tryz.func226 (by kernel_rfl) (by kernel_rfl) (by kernel_rfl) (by kernel_rfl)
 have h37:=@run_callFunc_extern Tryz.prog 239 _ (ReflectliteType.method ReflectliteType.elem) Tryz.func239 (by kernel_rfl) (by kernel_rfl) (by kernel_rfl) (by kernel_rfl)
 have h38 := @run_callFunc_extern Tryz.prog 240 _ (ReflectliteType.relation "Implements" ReflectliteType.implements_) Tryz.func240 (by kernel_rfl) (by kernel_rfl) (by kernel_rfl) (by kernel_rfl)
 have h10:=@run_callFunc_extern Tryz.prog 124 _ ReflectliteType.typeOf Tryz.func124 (by kernel_rfl) (by kernel_rfl) (by kernel_rfl) (by kernel_rfl)
 have h35 := @run_callFunc_extern Tryz.prog 237 _ (ReflectliteType.relation "AssignableTo" ReflectliteType.assignableTo) Tryz.func237 (by kernel_rfl) (by kernel_rfl) (by kernel_rfl) (by kernel_rfl)
 have h11 := @run_callFunc_extern Tryz.prog 125 _ (ReflectliteValue.method (ReflectliteValue.valueError "reflectlite.Value.Elem" 0) ReflectliteValue.elem) Tryz.func125 (by kernel_rfl) (by kernel_rfl) (by kernel_rfl) (by kernel_rfl)
 have h12:=@run_callFunc_extern Tryz.prog 126 _ ReflectliteValue.set Tryz.func126 (by kernel_rfl) (by kernel_rfl) (by kernel_rfl) (by kernel_rfl)
 have tO:=As.typeOf1
 have mA:=As.methodAssignableTo
 have a25:=As.assignable1
 have v25:=As.valueOf1
 have f6:=As.valueOf2
 have f7:=As.type2
 have mK:=As.methodKind
 have mE:=As.methodElem
 have mI:=As.methodImplements
 have k27:=As.kind2
 have k25:=As.kind1
 have e27:=As.elem2
 have i25:=As.implements1
 have n8:=As.isNil2 ⟨w.heap.size,0,none⟩ t ((w.alloc (.cells #[.pointer (some t)] 121)).alloc (.cells #[.pointer (some ⟨7,121,none⟩),.pointer (some ⟨w.heap.size,0,none⟩),.int .u64 150] 175)) (by simp)
 have hlt:0<w.heap.size:=by
  rcases Nat.eq_zero_or_pos w.heap.size with h0 | h
  ·simp[World.cell?,h0] at hg
  ·exact h
 have hg2:((w.alloc (.cells #[.pointer (some t)] 121)).alloc (.cells #[.pointer (some ⟨7,121,none⟩),.pointer (some ⟨w.heap.size,0,none⟩),.int .u64 150] 175)).cell? ⟨0,0,none⟩=some (.iface 196 (.agg #[.pointer (some ⟨7,66,none⟩)])):=by
  rw[World.cell?_alloc_lt _ _ ⟨0,0,none⟩ (by simp),World.cell?_alloc_lt _ _ ⟨0,0,none⟩ hlt];exact hg
 have htl:t.block<w.heap.size:=by
  rcases Nat.lt_or_ge t.block w.heap.size with h | h
  ·exact h
  ·simp[World.cell?,Array.getElem?_eq_none h] at ht0
 have el:=As.elemV2 ⟨w.heap.size,0,none⟩ t (((w.alloc (.cells #[.pointer (some t)] 121)).alloc (.cells #[.pointer (some ⟨7,121,none⟩),.pointer (some ⟨w.heap.size,0,none⟩),.int .u64 150] 175)).alloc (.cells #[.pointer (some ⟨7,121,none⟩),.pointer (some ⟨w.heap.size,0,none⟩),.int .u64 150] 175)) (by rw[World.cell?_alloc_lt _ _ ⟨w.heap.size,0,none⟩ (by simp;omega)];simp)
 have st:=As.set1 t ⟨w.heap.size+1+1+1,0,none⟩ e old ((((w.alloc (.cells #[.pointer (some t)] 121)).alloc (.cells #[.pointer (some ⟨7,121,none⟩),.pointer (some ⟨w.heap.size,0,none⟩),.int .u64 150] 175)).alloc (.cells #[.pointer (some ⟨7,121,none⟩),.pointer (some ⟨w.heap.size,0,none⟩),.int .u64 150] 175)).alloc (.cells #[.pointer (some e)] 90))
  (by rw[World.cell?_alloc_at _ _ _ _ (by simp)];rfl)
  (by rw[World.cell?_alloc_lt _ _ t (by simp;omega),World.cell?_alloc_lt _ _ t (by simp;omega),World.cell?_alloc_lt _ _ t (by simp;omega),World.cell?_alloc_lt _ _ t htl];exact ht0)
  (by rw[World.frozen?_alloc_old _ _ t (by simp;omega),World.frozen?_alloc_old _ _ t (by simp;omega),World.frozen?_alloc_old _ _ t (by simp;omega),World.frozen?_alloc_old _ _ t (Nat.ne_of_lt htl)];exact hf0)
 go_enter Tryz.func67,Tryz.ntmps67
 go_wp2
 refine wp_loop_rounds 1 ?_;rw[rounds_succ]
 go_wp2
 go_ret
 exact⟨rfl,rfl⟩
open Go Go.RowKit
theorem good_alloc{w:World}{S:St}(hg:Good (C G) w S)(o:Obj):Good (C G) (w.alloc o) S∧Adv w S (w.alloc o) S:=
 ⟨hg.mk (hg.1.alloc o) (Adv.alloc o hg.1.fresh),Adv.alloc o hg.1.fresh⟩
def GAs(G:Nat→Option (List AV)):Prop:=G 0=some [.raw (.iface 196 (.agg #[.pointer (some ⟨7,66,none⟩)]))]
theorem as_ok_nil(x:AV)(S:St):Triple P (C G) 67 [.nili,x] S fun o S'=>o=.ret (.bool false)∧S'=S:=by
 refine Triple.of_calls (x:=.bool false) Tryz.func67 rfl (by decide +kernel) (fun w vs hg hr=>?_) ⟨rfl,rfl⟩
 obtain⟨u,v,hv,r1,r2⟩:=RelL.two hr;simp only[Rel] at r1;subst r1;rw[show vs=#[.nilIface,v] from arr_of_list hv];refine(as_nil v w).mono fun e w' he=>?_
 obtain⟨rfl,rfl⟩:=he;exact⟨_,rfl,by simp only[Rel],Below.refl _ _⟩
theorem as_ok_hit(hA:GAs G)(e:Int){b:Nat}{S:St}(hS:S b=some (.obj 90 [.nilp])) :
 Triple P (C G) 67 [failAV e,.ifc 121 (.ref b 0)] S fun o S'=>o=.ret (.bool true)∧S'=S.upd b (.obj 90 [.imm [.int .i64 2,.int .i64 0,.int .i64 e]]):=by
 refine Triple.of_callsW Tryz.func67 rfl (by decide +kernel) (fun w vs hg hr=>?_)
 obtain⟨u,v,hv,r1,r2⟩:=RelL.two hr;unfold failAV at r1;simp only[Rel] at r1 r2;obtain⟨y,rfl,fb,off,rfl,r3⟩:=r1;obtain⟨z,rfl,rfl⟩:=r2;rw[show vs=#[.iface 90 (.pointer (some ⟨fb,off,none⟩)),.iface 121 (.pointer (some ⟨b,0,none⟩))] from arr_of_list hv];obtain⟨_,_,h3,_⟩:=hg.2 _ _ hA;simp only[RelAt] at h3;obtain⟨⟨v0,⟨_,h4,_⟩,h5⟩,_⟩:=h3;simp only[Rel] at h5;subst h5;obtain⟨cs,k1,k2,k3⟩:=hg.1 b _ hS;obtain⟨u0,hu0,h6⟩:=RelL.one k2;simp only[Rel] at h6;subst h6;obtain rfl:cs=#[.pointer none]:=arr_of_list hu0;refine(as_hit ⟨fb,off,none⟩ ⟨b,0,none⟩ (.pointer none) w h4 (by rw[Lib.cell_of_heap k1];rfl) (by simp[World.frozen?,k1])).mono fun ev w' he=>?_
 obtain⟨rfl,rfl⟩:=he;obtain⟨g1,a1⟩:=good_alloc hg (.cells #[.pointer (some ⟨b,0,none⟩)] 121);obtain⟨g2,a2⟩:=good_alloc g1 (.cells #[.pointer (some ⟨7,121,none⟩),.pointer (some ⟨w.heap.size,0,none⟩),.int .u64 150] 175);obtain⟨g3,a3⟩:=good_alloc g2 (.cells #[.pointer (some ⟨7,121,none⟩),.pointer (some ⟨w.heap.size,0,none⟩),.int .u64 150] 175);obtain⟨g4,a4⟩:=good_alloc g3 (.cells #[.pointer (some ⟨fb,off,none⟩)] 90);have aa:=((a1.trans a2).trans a3).trans a4;generalize (((w.alloc _).alloc _).alloc _).alloc _=w4 at *;obtain⟨cs,k1',k2',k3'⟩:=g4.1 b _ hS;obtain⟨u0,hu0,h6⟩:=RelL.one k2';simp only[Rel] at h6;subst h6;obtain rfl:cs=#[.pointer none]:=arr_of_list hu0;obtain⟨r1,r2⟩:=setCell_row k1' (.pointer (some ⟨fb,off,none⟩));obtain⟨q1,q2⟩:=good_row (w':=w4.setCell ⟨b,0,none⟩ (.pointer (some ⟨fb,off,none⟩))) (cells':=[.imm [.int .i64 2,.int .i64 0,.int .i64 e]]) g4 hS k1' rfl rfl rfl (by simp[World.setCell]) r2 r1 (by simp) (by
  simp only[RelL,Rel];exact⟨_,_,rfl,⟨_,_,rfl,RelAt.mono aa _ _ _ r3⟩,rfl⟩) (by
  intro v hv;simp only[Array.toList_setIfInBounds,List.set_cons_zero,List.mem_cons,List.not_mem_nil,or_false] at hv;subst hv;rfl)
 exact⟨_,.bool true,_,rfl,by simp only[Rel],q1,aa.trans q2,rfl,rfl⟩
def parseP(s:ByteArray):StepV×Int:=if (parseW (wordsL s)).2=0 then ((parseW (wordsL s)).1,0) else (zeroV,(parseW (wordsL s)).2)
theorem Parse_line_ok(hG:GS G)(hA:GAs G)(s:ByteArray)(hs:s.size≤8999999)(S:St) :
 Triple P (C G) 23 [.str s] S fun o S'=>o=.ret (.tu [stepAV (parseP s).1,.int .i64 (parseP s).2])∧S'=S:=by
 have hp:=fun S=>parse_ok (G:=G) hG s hs S
 unfold parseP;generalize parseW (wordsL s)=r at *;obtain⟨v,e⟩:=r;dsimp only at hp ⊢;refine triple_of_awp (hT G) hm Tryz.func23 rfl (by decide +kernel) rfl (by decide +kernel) (by show 1≤_;decide +kernel) rfl ?_
 refine awp_seq2 fun K hK hQ=>?_
 conv=>whnf
 intro b2 hb2;conv=>whnf
 refine hK _ _ ?_;clear hK hQ K;have hfin:∀ (o2 o2' o4 o4' o6:Own) (b4 b6:Nat),(S.upd b2 o2) b4=none→(((S.upd b2 o2).upd b4 o4).upd b4 o4') b6=none→St.le S (((((S.upd b2 o2).upd b4 o4).upd b4 o4').upd b6 o6).upd b2 o2'):=fun o2 o2' o4 o4' o6 b4 b6 hb4 hb6=>by
  rw[St.upd_upd] at hb6 ⊢;exact St.le_upd (St.le_upd' (St.le_upd' (St.le_upd' (St.le_refl _) hb2 _) hb4 _) hb6 _) hb2 _
 have hfin2:∀ (o2 o2' o4 o4' o6 o6':Own) (b4 b6:Nat),(S.upd b2 o2) b4=none→(((S.upd b2 o2).upd b4 o4).upd b4 o4') b6=none→St.le S ((((((S.upd b2 o2).upd b4 o4).upd b4 o4').upd b6 o6).upd b6 o6').upd b2 o2'):=fun o2 o2' o4 o4' o6 o6' b4 b6 hb4 hb6=>by
  rw[St.upd_upd _ b6];exact hfin _ _ _ _ _ _ _ hb4 hb6
 refine awp_seq2 fun K hK hQ=>?_
 by_cases he:e=0
 ·simp only[if_pos he] at hK hQ;simp only[errAV,if_pos he] at hp;conv=>whnf
  refine(hp _).mono ?_;rintro o S' ⟨rfl,rfl⟩;conv=>whnf
  intro b4 hb4;conv=>whnf
  refine⟨_,_,St.upd_same _ _ _,?_⟩;conv=>whnf
  refine hK _ _ ?_;clear hK hQ K;refine awp_seq2 fun K hK hQ=>?_
  conv=>whnf
  intro b6 hb6;conv=>whnf
  refine hK _ _ ?_;clear hK hQ K;refine awp_seq2 fun K hK hQ=>?_
  conv=>whnf
  refine(as_ok_nil _ _).mono ?_;rintro o S' ⟨rfl,rfl⟩;conv=>whnf
  refine hK _ _ ?_;clear hK hQ K;conv=>whnf
  refine⟨_,_,St.up hb6 (St.upd_same _ _ _),?_⟩;conv=>whnf
  refine⟨_,_,St.up hb6 (by rw[St.upd_upd];exact St.up hb4 (St.upd_same _ _ _)),?_⟩
  conv=>whnf
  refine⟨_,_,St.upd_same _ _ _,?_⟩;conv=>whnf
  refine⟨_,_,⟨rfl,rfl⟩,?_,AV.leS_refl _ _ _⟩;exact hfin _ _ _ _ _ _ _ hb4 hb6
 ·simp only[if_neg he] at hK hQ;simp only[errAV,if_neg he] at hp;conv=>whnf
  refine(hp _).mono ?_;rintro o S' ⟨rfl,rfl⟩;conv=>whnf
  intro b4 hb4;conv=>whnf
  refine⟨_,_,St.upd_same _ _ _,?_⟩;conv=>whnf
  refine hK _ _ ?_;clear hK hQ K;refine awp_seq2 fun K hK hQ=>?_
  conv=>whnf
  intro b6 hb6;conv=>whnf
  refine hK _ _ ?_;clear hK hQ K;refine awp_seq2 fun K hK hQ=>?_
  conv=>whnf
  refine(as_ok_hit hA e (St.upd_same _ _ _)).mono ?_;rintro o S' ⟨rfl,rfl⟩;have q2:∀ o4 o4' o6 o6':Own,((((((S.upd b2 (.obj 54 stepZ)).upd b4 o4).upd b4 o4').upd b6 o6).upd b6 o6') b2=some (.obj 54 stepZ)):=fun o4 o4' o6 o6'=>by
   rw[St.upd_upd,St.upd_upd];have n1:b2≠b4:=(St.ne_upd hb4).symm;have n2:b2≠b6:=(St.ne_upd (by rw[St.upd_upd] at hb6;exact St.no hb6)).symm
   exact St.ov n2 (St.ov n1 (St.upd_same _ _ _))
  have n62:b6≠b2:=St.ne_upd (by rw[St.upd_upd] at hb6;exact St.no hb6)
  refine⟨[],(.free 0 (.one 1 (.free 2 (.free 3 (.one 4 (.one 5 (.free 6 .done) .none) (.one 5 (.free 4 (.free 6 .done)) .none)))) (.one 5 (.free 1 (.free 2 (.free 3 (.free 4 (.free 6 .done))))) .none))),_,by decide +kernel,?_,fun _ _ h=>⟨_,.inl rfl,h⟩⟩
  conv=>whnf
  refine⟨?_,?_⟩
  ·refine⟨_,_,St.upd_same _ _ _,?_⟩;conv=>whnf
   refine⟨?_,?_⟩
   ·conv=>whnf
    refine⟨_,_,q2 _ _ _ _,?_⟩;conv=>whnf
    refine hQ _ _ _ (by simp) ?_
    conv=>whnf
    refine⟨_,_,St.upd_same _ _ _,?_⟩;conv=>whnf
    refine⟨_,_,⟨rfl,rfl⟩,hfin2 _ _ _ _ _ _ _ _ hb4 hb6,⟨⟨rfl,rfl,rfl,rfl,rfl,rfl,rfl,rfl,rfl,rfl,rfl⟩,rfl,rfl⟩⟩
   ·refine⟨_,_,q2 _ _ _ _,?_⟩;conv=>whnf
    refine hQ _ _ _ (by simp) ?_
    conv=>whnf
    refine⟨_,_,St.upd_same _ _ _,?_⟩;conv=>whnf
    refine⟨_,_,⟨rfl,rfl⟩,hfin2 _ _ _ _ _ _ _ _ hb4 hb6,⟨⟨rfl,rfl,rfl,rfl,rfl,rfl,rfl,rfl,rfl,rfl,rfl⟩,rfl,rfl⟩⟩
  ·refine⟨_,_,q2 _ _ _ _,?_⟩;conv=>whnf
   refine⟨_,_,St.ov n62 (St.upd_same _ _ _),?_⟩;conv=>whnf
   refine hQ _ _ _ (by simp) ?_
   conv=>whnf
   refine⟨_,_,St.upd_same _ _ _,?_⟩;conv=>whnf
   refine⟨_,_,⟨rfl,rfl⟩,hfin2 _ _ _ _ _ _ _ _ hb4 hb6,⟨⟨rfl,rfl,rfl,rfl,rfl,rfl,rfl,rfl,rfl,rfl,rfl⟩,rfl,rfl⟩⟩
def stepR(v:StepV):List AV:=[.int .i64 v.kind,.str v.num,.sl .any 3 (rowsO v.ops),.sl .any 2 (rowsP v.pieces),.str v.bound,.sl .any 1 (rowsI v.lits),.sl .any 1 (rowsS v.ids),.int .i64 v.n6,.str v.s7,.str v.s8]
def rowsT(l:List StepV):List (List AV):=l.map stepR
@[simp] theorem rowsT_len (l:List StepV):(rowsT l).length=l.length:=by simp[rowsT]
def okI(z:Int):Prop:=-9223372036854775808≤z∧z≤9223372036854775807
def litT(z:Int):ByteArray:=if z<0 then (⟨#[126,120]⟩:ByteArray)++itoaS (IntKind.i64.wrap (0-z)) else (⟨#[120]⟩:ByteArray)++itoaS z
theorem wrap_okI(z:Int):okI (IntKind.i64.wrap z):=by
 unfold okI;rw[IntKind.wrap_i64];omega
theorem itoaS_le(z:Int)(h0:-9223372036854775808≤z)(h1:z≤9223372036854775807):(itoaS z).size≤21:=by rw[itoaS_size];exact Lib.itoa_length_le z h0 h1
theorem litText_ok(hG:G10 G)(z:Int)(hz:okI z)(S:St):Triple P (C G) 89 [.int .i64 z] S fun o S'=>o=.ret (.str (litT z))∧S'=S:=by
 refine triple_of_awp (hT G) hm Tryz.func89 rfl (by decide +kernel) rfl (by decide +kernel) (by show 1≤_;decide +kernel) rfl ?_
 conv=>whnf
 refine split_of (fun h=>?_) (fun h=>?_)
 ·have h:=of_decide_eq_true h
  have hw:=wrap_okI (0-z)
  unfold litT;rw[if_pos h];conv=>whnf
  generalize IntKind.i64.wrap (0-z)=y at *;refine(itoa_ok hG y hw.1 hw.2 _).mono ?_;rintro o S' ⟨rfl,rfl⟩;conv=>whnf
  refine⟨by have:=itoaS_le y hw.1 hw.2;show 2+_≤_;omega,?_⟩
  conv=>whnf
  exact⟨_,_,⟨rfl,rfl⟩,St.le_refl _,AV.leS_refl _ _ _⟩
 ·have h:=of_decide_eq_false h
  unfold litT;rw[if_neg h];conv=>whnf
  refine(itoa_ok hG z hz.1 hz.2 _).mono ?_;rintro o S' ⟨rfl,rfl⟩;conv=>whnf
  refine⟨by have:=itoaS_le z hz.1 hz.2;show 1+_≤_;omega,?_⟩
  conv=>whnf
  exact⟨_,_,⟨rfl,rfl⟩,St.le_refl _,AV.leS_refl _ _ _⟩
theorem ba_size_append(a b:ByteArray):(a++b).size=a.size+b.size:=ByteArray.size_append
theorem litT_size(z:Int)(hz:okI z):(litT z).size≤23:=by
 unfold litT
 split
 ·have:=itoaS_le (IntKind.i64.wrap (0-z)) (wrap_okI _).1 (wrap_okI _).2
  rw[ba_size_append];show 2+_≤_;omega
 ·have:=itoaS_le z hz.1 hz.2
  rw[ba_size_append];show 1+_≤_;omega
def litsT(l:List Int):List ByteArray:=l.map litT
theorem litTexts_ok(hG:G10 G)(l:List Int)(hl:∀ z∈l,okI z)(hn:l.length≤100000000)(S:St):Triple P (C G) 63 [.sl .any 1 (rowsI l)] S fun o S'=>o=.ret (.sl .any 1 (rowsS (litsT l)))∧S'=S:=by
 refine triple_of_awp (hT G) hm Tryz.func63 rfl (by decide +kernel) rfl (by decide +kernel) (by show 1≤_;decide +kernel) rfl ?_
 conv=>whnf
 intro _;conv=>whnf
 refine⟨⟨Nat×Nat,fun(i,ba)=>[(0,.sl .any 1 (rowsI l)),(3,.sl (.acc ba) 1 (rowsS (litsT (l.take i)))),(6,.sl .any 1 (rowsI l)),(7,.int .i64 (l.length:Int)),(8,.int .i64 (i:Int))],
  fun(i,ba) S1=>AccOk S S1 9 1 ba (litsT (l.take i)).length∧i≤l.length,fun(i,_)=>l.length-i⟩,
  ⟨(0,0),⟨⟨rfl,rfl⟩,rfl,⟨rfl,rfl⟩,congrArg (AV.int .i64) (by rw[rowsI_len]),rfl,trivial⟩,_,St.leW_refl _,AccOk.init _ _ _ _,by omega⟩,?_⟩
 rintro⟨i,ba⟩ S1 ⟨h1,h2⟩;have hlen:(litsT (l.take i)).length=i:=by simp[litsT];omega
 conv=>whnf
 refine split_of (fun hlt=>?_) (fun hlt=>?_)
 ·have hlt:i<l.length:=by have:=of_decide_eq_true hlt;omega
  have hsn:litsT (l.take (i+1))=litsT (l.take i)++[litT l[i]]:=by rw[List.take_add_one,litsT,List.map_append];simp[litsT,hlt]
  have hz:=hl _ (List.getElem_mem hlt)
  have hgr:(rowsI l)[(i:Int).toNat]? = some [.int .i64 l[i]]:=by simp[rowsI,hlt]
  generalize l[i]=z at *;conv=>whnf
  refine⟨_,⟨by omega,hgr⟩,?_⟩
  conv=>whnf
  refine(litText_ok hG z hz _).mono ?_;rintro o T ⟨rfl,rfl⟩;conv=>whnf
  intro bb hbb;have h1':=h1.other hbb (.tip 9 1 1);conv=>whnf
  refine⟨⟨fun hl=>?_,?_⟩,fun S4 c1 c2 b' c3=>?_⟩
  ·have:0<(litsT (l.take i)).length:=by
    cases hx:litsT (l.take i) with
    | nil=>rw[hx] at hl;exact absurd rfl hl
    | cons _ _=>simp
   rw[rowsS_len];exact h1'.tip this
  ·show((rowsS (litsT (l.take i))).length+1)*16≤_
   rw[rowsS_len];omega
  have h5:=h1'.push (m:=(litsT (l.take i)).length+1) (by rw[rowsS_len]) c1 c2 c3 rfl
  rw[rowsS_len];have w1:IntKind.i64.wrap ((i:Int)+1)=((i+1:Nat):Int):=wrap_nat (by omega)
  conv=>whnf
  refine⟨(i+1,b'),⟨⟨rfl,rfl⟩,congrArg (AV.sl (.acc b') 1) (show rowsS (litsT (l.take i))++[[AV.str (litT z)]]=rowsS (litsT (l.take (i+1))) by rw[hsn];exact rowsS_snoc _ _),⟨rfl,rfl⟩,rfl,congrArg _ w1,trivial⟩,⟨_,St.leW_refl _,by rw[hsn,show(litsT (l.take i)++[litT z]).length=(litsT (l.take i)).length+1 by simp];exact h5,by show i+1≤_;omega⟩,by show l.length-(i+1)<l.length-i;omega⟩
 ·have hlt:i=l.length:=by have:=of_decide_eq_false hlt;omega
  subst hlt;conv=>whnf
  refine⟨_,_,⟨rfl,rfl⟩,h1.le,⟨rfl,by rw[List.take_length]⟩⟩
def opT(o:OpV):ByteArray:=
 if o.1=1 then o.2.1 else if o.1=2 then litT o.2.2 else if o.1=3 then ⟨#[43]⟩ else if o.1=4 then o.2.1++(⟨#[32,42]⟩:ByteArray) else if o.1=5 then o.2.1++(⟨#[32,100]⟩:ByteArray)
 else if o.1=6 then ⟨#[115]⟩ else if o.1=7 then litT o.2.2++(⟨#[32,119]⟩:ByteArray) else ⟨#[]⟩
theorem opText_ok(hG:G10 G)(o:OpV)(hz:okI o.2.2)(hs:o.2.1.size≤1000000000)(S:St):Triple P (C G) 61 [opAV o] S fun r S'=>r=.ret (.str (opT o))∧S'=S:=by
 obtain⟨k,num,z⟩:=o;have hlz:=litT_size z hz
 show Triple P (C G) 61 [.ag [.int .i64 k,.str num,.int .i64 z]] S fun r S'=>r=.ret (.str (opT (k,num,z)))∧S'=S
 refine triple_of_awp (hT G) hm Tryz.func61 rfl (by decide +kernel) rfl (by decide +kernel) (by show 1≤_;decide +kernel) rfl ?_
 refine awp_seq2 fun K hK hQ=>?_
 conv=>whnf
 intro b hb;conv=>whnf
 refine hK _ _ ?_;clear hK hQ K;refine awp_seq2 fun K hK hQ=>?_
 conv=>whnf
 refine⟨_,_,St.upd_same _ _ _,?_⟩;conv=>whnf
 have hle:=St.le_upd' (St.le_refl S) hb (.obj 85 [.int .i64 k,.str num,.int .i64 z])
 have q:=St.upd_same S b (.obj 85 [.int .i64 k,.str num,.int .i64 z])
 generalize S.upd b (.obj 85 [.int .i64 k,.str num,.int .i64 z])=S1 at *;refine split_of (fun h=>?_) (fun h=>?_)
 ·have h1:k=1:=by simpa using h
  rw[show opT (k,num,z)=num from by simp[opT,h1]] at hQ
  clear hK;conv=>whnf
  refine⟨_,_,q,?_⟩;conv=>whnf
  refine hQ _ _ _ (by simp) ?_
  conv=>whnf
  exact⟨_,_,⟨rfl,rfl⟩,hle,AV.leS_refl _ _ _⟩
 have h1:¬ k=1:=by simpa using h
 conv=>whnf
 refine split_of (fun h=>?_) (fun h=>?_)
 ·have h2:k=2:=by simpa using h
  rw[show opT (k,num,z)=litT z from by simp[opT,h2]] at hQ
  clear hK;conv=>whnf
  refine⟨_,_,q,?_⟩;conv=>whnf
  refine(litText_ok hG z hz _).mono ?_;rintro r S' ⟨rfl,rfl⟩;conv=>whnf
  refine hQ _ _ _ (by simp) ?_
  conv=>whnf
  exact⟨_,_,⟨rfl,rfl⟩,hle,AV.leS_refl _ _ _⟩
 have h2:¬ k=2:=by simpa using h
 conv=>whnf
 refine split_of (fun h=>?_) (fun h=>?_)
 ·have h3:k=3:=by simpa using h
  rw[show opT (k,num,z)=(⟨#[43]⟩:ByteArray) from by simp[opT,h3]] at hQ
  clear hK;conv=>whnf
  refine hQ _ _ _ (by simp) ?_
  conv=>whnf
  exact⟨_,_,⟨rfl,rfl⟩,hle,AV.leS_refl _ _ _⟩
 have h3:¬ k=3:=by simpa using h
 conv=>whnf
 refine split_of (fun h=>?_) (fun h=>?_)
 ·have h4:k=4:=by simpa using h
  rw[show opT (k,num,z)=num++(⟨#[32,42]⟩:ByteArray) from by simp[opT,h4]] at hQ
  clear hK;conv=>whnf
  refine⟨_,_,q,?_⟩;conv=>whnf
  refine⟨by show num.size+2≤_;dsimp only at hs;omega,?_⟩
  conv=>whnf
  refine hQ _ _ _ (by simp) ?_
  conv=>whnf
  exact⟨_,_,⟨rfl,rfl⟩,hle,AV.leS_refl _ _ _⟩
 have h4:¬ k=4:=by simpa using h
 conv=>whnf
 refine split_of (fun h=>?_) (fun h=>?_)
 ·have h5:k=5:=by simpa using h
  rw[show opT (k,num,z)=num++(⟨#[32,100]⟩:ByteArray) from by simp[opT,h5]] at hQ
  clear hK;conv=>whnf
  refine⟨_,_,q,?_⟩;conv=>whnf
  refine⟨by show num.size+2≤_;dsimp only at hs;omega,?_⟩
  conv=>whnf
  refine hQ _ _ _ (by simp) ?_
  conv=>whnf
  exact⟨_,_,⟨rfl,rfl⟩,hle,AV.leS_refl _ _ _⟩
 have h5:¬ k=5:=by simpa using h
 conv=>whnf
 refine split_of (fun h=>?_) (fun h=>?_)
 ·have h6:k=6:=by simpa using h
  rw[show opT (k,num,z)=(⟨#[115]⟩:ByteArray) from by simp[opT,h6]] at hQ
  clear hK;conv=>whnf
  refine hQ _ _ _ (by simp) ?_
  conv=>whnf
  exact⟨_,_,⟨rfl,rfl⟩,hle,AV.leS_refl _ _ _⟩
 have h6:¬ k=6:=by simpa using h
 conv=>whnf
 refine split_of (fun h=>?_) (fun h=>?_)
 ·have h7:k=7:=by simpa using h
  rw[show opT (k,num,z)=litT z++(⟨#[32,119]⟩:ByteArray) from by simp[opT,h7]] at hQ
  clear hK;conv=>whnf
  refine⟨_,_,q,?_⟩;conv=>whnf
  refine(litText_ok hG z hz _).mono ?_;rintro r S' ⟨rfl,rfl⟩;conv=>whnf
  refine⟨by show(litT z).size+2≤_;omega,?_⟩
  conv=>whnf
  refine hQ _ _ _ (by simp) ?_
  conv=>whnf
  exact⟨_,_,⟨rfl,rfl⟩,hle,AV.leS_refl _ _ _⟩
 have h7:¬ k=7:=by simpa using h
 conv=>whnf
 refine hK _ _ ?_;clear hK hQ K;conv=>whnf
 rw[show opT (k,num,z)=(⟨#[]⟩:ByteArray) from by simp[opT,h1,h2,h3,h4,h5,h6,h7]]
 exact⟨_,_,⟨rfl,rfl⟩,hle,AV.leS_refl _ _ _⟩
def joinS(l:List ByteArray)(sep:ByteArray):ByteArray:=⟨(Lib.join (l.map (·.data.toList)) sep.data.toList).toArray⟩
theorem join_ok(l:List ByteArray)(sep:ByteArray)(hn:l.length≤140737488355328)(hlen:(joinS l sep).size≤140737488355328)(S:St):Triple P (C G) 65 [.sl .any 1 (rowsS l),.str sep] S fun o S'=>o=.ret (.str (joinS l sep))∧S'=S:=by
 refine Triple.of_calls (x:=.str (joinS l sep)) Tryz.func65 rfl (by decide +kernel) (fun w vs hg hr=>?_) ⟨rfl,rfl⟩
 obtain⟨u,v,hv,r1,r2⟩:=RelL.two hr;simp only[Rel] at r1 r2;subst r2;have hl0:l=[]→∀ a c,vs=#[.slice a 0 c,.string sep]→Calls P 65 vs w fun e w'=>∃ v,e=.returned v∧Rel w' (rdOf S) (.str (joinS l sep)) v∧Below w.heap.size w w':=by
  rintro rfl a c rfl;refine(Tryz.strings_Join_none a c sep w).mono fun e w' he=>?_
  obtain⟨rfl,rfl⟩:=he;exact⟨_,rfl,by simp only[Rel];rfl,Below.refl _ _⟩
 have hrl:∀ l:List ByteArray,rowsS l=[]→l=[]:=fun l h=>by simpa [rowsS] using h
 rcases r1 with ⟨_,h,hz⟩ | ⟨b,off,cap,rfl,h1,h2,_,h4⟩
 ·obtain⟨ap,rfl⟩:=hz.slice;exact hl0 (hrl l h) ap 0 (arr_of_list hv)
 ·by_cases hl:l=[]
  ·subst hl;exact hl0 rfl _ cap (arr_of_list hv)
  ·rw[rowsS_len] at h1;have hcell:∀ (j:Nat) x,l[j]? = some x→w.cell? ⟨b,off+j,none⟩=some (.string x):=fun j x hx=>by
    obtain⟨g1,g2⟩:=RelRows.get h4 j [.str x] (by simp[rowsS,hx])
    obtain⟨v,⟨g3,g4,g5⟩,g6⟩:=RelAt.get g2 0 _ rfl;simp only[Rel] at g6;subst g6
    simpa using g4
   have hb:b<w.heap.size:=by
    cases l with
    | nil=>exact absurd rfl hl
    | cons x l=>
      have:=hcell 0 x rfl
      rcases Nat.lt_or_ge b w.heap.size with h | h
      ·exact h
      ·simp[World.cell?,Array.getElem?_eq_none h] at this
   rw[show vs=#[.slice (some ⟨b,off,none⟩) l.length cap,.string sep] by rw[← rowsS_len l];exact arr_of_list hv]
   have hlen':(Lib.join (l.map (·.data.toList)) sep.data.toList).length≤140737488355328:=by
    have:(joinS l sep).size=(Lib.join (l.map (·.data.toList)) sep.data.toList).length:=by unfold joinS;simp[ByteArray.size]
    omega
   refine(Tryz.strings_Join b off cap l sep w hcell hb hn h1 hlen').mono fun e w' he=>?_
   obtain⟨rfl,hbl⟩:=he;exact⟨_,rfl,by simp only[Rel];rfl,hbl⟩
theorem joinS_size(l:List ByteArray)(sep:ByteArray){k m:Nat}(hk:∀ x∈l,x.size≤k)(hs:sep.size≤m):(joinS l sep).size≤l.length*(k+m):=by
 have e:∀ b:ByteArray,b.data.toList.length=b.size:=fun b=>by rw[Array.length_toList];rfl
 have h1:(joinS l sep).size=(Lib.join (l.map (·.data.toList)) sep.data.toList).length:=by unfold joinS;simp[ByteArray.size]
 rw[h1]
 cases l with
 | nil=>simp[Lib.join_nil]
 | cons x l=>
   rw[List.map_cons,Lib.join_cons,List.length_append,e];have hx:=hk x (by simp)
   have ht:∀ l:List ByteArray,(∀ x∈l,x.size≤k)→(Lib.joinTail sep.data.toList (l.map (·.data.toList))).length≤l.length*(k+m):=by
    intro l hl
    induction l with
    | nil=>simp[Lib.joinTail]
    | cons y l ih=>
      have:=ih (fun z hz=>hl z (by simp[hz]))
      have hy:=hl y (by simp)
      unfold Lib.joinTail at this ⊢;rw[List.map_cons,List.map_cons,List.flatten_cons,List.length_append,List.length_append,e,e,List.length_cons,Nat.succ_mul];omega
   have:=ht l (fun z hz=>hk z (by simp[hz]))
   rw[List.length_cons,Nat.succ_mul];omega
def pieceT(ps:List (ByteArray×Int)):List ByteArray:=ps.flatMap fun p=>[p.1,litT p.2]
def spaceS:ByteArray:=⟨#[32]⟩
def rowT(ps:List (ByteArray×Int))(bound:ByteArray):ByteArray:=joinS (pieceT ps++[geS,bound,semiS]) spaceS
theorem pieceT_len(ps:List (ByteArray×Int)):(pieceT ps).length=2*ps.length:=by
 unfold pieceT
 induction ps with
 | nil=>rfl
 | cons p ps ih=>simp at ih ⊢;omega
theorem pieceT_snoc(ps:List (ByteArray×Int))(p:ByteArray×Int):pieceT (ps++[p])=pieceT ps++[p.1,litT p.2]:=by simp[pieceT]
def OkRow(ps:List (ByteArray×Int))(bound:ByteArray):Prop:=ps.length≤1000000∧(∀ p∈ps,okI p.2∧p.1.size≤10000000)∧bound.size≤10000000
theorem pieceT_size{ps:List (ByteArray×Int)}{bound:ByteArray}(h:OkRow ps bound):∀ x∈pieceT ps++[geS,bound,semiS],x.size≤10000000:=by
 intro x hx
 rcases List.mem_append.1 hx with hx | hx
 ·unfold pieceT at hx;obtain⟨p,hp,hx⟩:=List.mem_flatMap.1 hx;have:=h.2.1 p hp;have hl:=litT_size p.2 this.1
  simp at hx
  rcases hx with rfl | rfl
  ·exact this.2
  ·omega
 ·simp at hx
  rcases hx with rfl | rfl | rfl
  ·decide
  ·exact h.2.2
  ·decide
theorem rowText_ok(hG:G10 G)(ps:List (ByteArray×Int))(bound:ByteArray)(h:OkRow ps bound)(S:St):Triple P (C G) 62 [.ag [.sl .any 2 (rowsP ps),.str bound]] S fun o S'=>o=.ret (.str (rowT ps bound))∧S'=S:=by
 have hjs:=joinS_size (pieceT ps++[geS,bound,semiS]) spaceS (pieceT_size h) (m:=1) (by decide)
 have hpl:=pieceT_len ps
 refine triple_of_awp (hT G) hm Tryz.func62 rfl (by decide +kernel) rfl (by decide +kernel) (by show 1≤_;decide +kernel) rfl ?_
 refine awp_seq2 fun K hK hQ=>?_
 conv=>whnf
 intro b1 hb1;conv=>whnf
 refine hK _ _ ?_;clear hK hQ K;have q1:=St.upd_same S b1 (.obj 51 [.sl .any 2 (rowsP ps),.str bound]);have hle1:=St.le_upd' (St.le_refl S) hb1 (.obj 51 [.sl .any 2 (rowsP ps),.str bound]);generalize S.upd b1 (.obj 51 [.sl .any 2 (rowsP ps),.str bound])=S1 at *;refine awp_seq2 fun K hK hQ=>?_
 conv=>whnf
 refine hK _ _ ?_;clear hK hQ K;refine awp_seq2 fun K hK hQ=>?_
 conv=>whnf
 refine⟨_,_,q1,?_⟩;conv=>whnf
 intro _;conv=>whnf
 refine⟨⟨Nat×Nat,fun(i,ba)=>[(1,.ref b1 0),(3,.sl (.acc ba) 1 (rowsS (pieceT (ps.take i)))),(7,.sl .any 2 (rowsP ps)),(8,.int .i64 (ps.length:Int)),(9,.int .i64 (i:Int))],
  fun(i,ba) S2=>AccOk S1 S2 9 1 ba (pieceT (ps.take i)).length∧i≤ps.length,fun(i,_)=>ps.length-i⟩,
  ⟨(0,0),⟨rfl,rfl,⟨rfl,rfl⟩,congrArg (AV.int .i64) (by rw[rowsP_len]),rfl,trivial⟩,_,St.leW_refl _,AccOk.init _ _ _ _,by omega⟩,?_⟩
 rintro⟨i,ba⟩ S2 ⟨h1,h2⟩;have hl2:(pieceT (ps.take i)).length=2*i:=by rw[pieceT_len,List.length_take];omega
 conv=>whnf
 refine split_of (fun hlt=>?_) (fun hlt=>?_)
 ·have hlt:i<ps.length:=by have:=of_decide_eq_true hlt;omega
  have hsn:pieceT (ps.take (i+1))=pieceT (ps.take i)++[ps[i].1,litT ps[i].2]:=by rw[← pieceT_snoc,List.take_add_one];simp[hlt]
  have hz:=h.2.1 _ (List.getElem_mem hlt)
  have hgr:(rowsP ps)[(i:Int).toNat]? = some [.str ps[i].1,.int .i64 ps[i].2]:=by simp[rowsP,hlt]
  generalize ps[i].1=nm at *;generalize ps[i].2=z at *;clear hK hQ;conv=>whnf
  refine⟨_,⟨by omega,hgr⟩,?_⟩
  conv=>whnf
  intro b5 hb5;conv=>whnf
  refine⟨_,_,St.upd_same _ _ _,?_⟩;conv=>whnf
  rw[St.upd_upd];have h1':=h1.other hb5 (.obj 126 [.str nm,.int .i64 z]);have q5:=St.upd_same S2 b5 (.obj 126 [.str nm,.int .i64 z]);generalize S2.upd b5 (.obj 126 [.str nm,.int .i64 z])=S3 at *;refine⟨[5],(.free 0 (.free 1 (.free 2 (.free 3 (.free 4 (.free 5 (.one 6 (.one 7 (.free 8 .done) .none) .none))))))),_,by decide +kernel,?_,fun _ _ h=>⟨_,.inl rfl,h⟩⟩
  conv=>whnf
  refine⟨_,_,q5,?_⟩;conv=>whnf
  refine⟨_,_,q5,?_⟩;conv=>whnf
  refine⟨.str (litT z),(litText_ok hG z hz.1 _).mono ?_,?_⟩
  ·rintro o S' ⟨rfl,rfl⟩;exact⟨rfl,rfl⟩
  conv=>whnf
  intro bb hbb;have h1'':=h1'.other hbb (.tip 9 1 2);conv=>whnf
  refine⟨⟨fun hl=>?_,?_⟩,fun S4 c1 c2 b' c3=>?_⟩
  ·have:0<(pieceT (ps.take i)).length:=by
    cases hx:pieceT (ps.take i) with
    | nil=>rw[hx] at hl;exact absurd rfl hl
    | cons _ _=>simp
   rw[rowsS_len];exact h1''.tip this
  ·show((rowsS (pieceT (ps.take i))).length+2)*16≤_
   rw[rowsS_len];have:=h.1;omega
  have h5:=h1''.push (m:=(pieceT (ps.take i)).length+2) (by rw[rowsS_len]) c1 c2 c3 rfl
  rw[rowsS_len];have w1:IntKind.i64.wrap ((i:Int)+1)=((i+1:Nat):Int):=wrap_nat (by have:=h.1;omega)
  conv=>whnf
  refine⟨(i+1,b'),⟨rfl,congrArg (AV.sl (.acc b') 1) (show rowsS (pieceT (ps.take i))++[[AV.str nm],[AV.str (litT z)]]=rowsS (pieceT (ps.take (i+1))) by rw[hsn];simp[rowsS]),⟨rfl,rfl⟩,rfl,congrArg _ w1,trivial⟩,⟨_,St.leW_refl _,by rw[hsn,show(pieceT (ps.take i)++[nm,litT z]).length=(pieceT (ps.take i)).length+2 by simp];exact h5,by show i+1≤_;omega⟩,by show ps.length-(i+1)<ps.length-i;omega⟩
 ·have hlt:i=ps.length:=by have:=of_decide_eq_false hlt;omega
  subst hlt;conv=>whnf
  refine hK _ _ ?_;clear hK hQ K;conv=>whnf
  refine⟨_,_,h1.le _ _ q1,?_⟩;conv=>whnf
  intro b3 hb3;have h1'':=h1.other hb3 (.tip 9 1 3);conv=>whnf
  refine⟨⟨fun hl=>?_,?_⟩,fun S4 c1 c2 b' c3=>?_⟩
  ·have:0<(pieceT (ps.take ps.length)).length:=by
    cases hx:pieceT (ps.take ps.length) with
    | nil=>rw[hx] at hl;exact absurd rfl hl
    | cons _ _=>simp
   rw[rowsS_len];exact h1''.tip this
  ·show((rowsS (pieceT (ps.take ps.length))).length+3)*16≤_
   rw[rowsS_len];have:=h.1;omega
  have h5:=h1''.push (m:=(pieceT (ps.take ps.length)).length+3) (by rw[rowsS_len]) c1 c2 c3 rfl
  rw[rowsS_len];conv=>whnf
  have hjl:(pieceT ps++[geS,bound,semiS]).length≤140737488355328:=by rw[List.length_append,hpl];have:=h.1;simp;omega
  have hj:=join_ok (G:=G) (pieceT ps++[geS,bound,semiS]) spaceS hjl (by have:=h.1;rw[List.length_append,hpl] at hjs;simp at hjs;omega)
  refine Triple.use (hj _) (by exact⟨⟨rfl,by rw[List.take_length];simp[rowsS,geS,semiS]⟩,rfl,trivial⟩) ?_
  rintro o S' ⟨rfl,rfl⟩;conv=>whnf
  exact⟨_,_,⟨rfl,rfl⟩,St.le_trans hle1 h5.le,AV.leS_refl _ _ _⟩
structure OkStep (v:StepV):Prop where
 ops:v.ops.length≤1000000∧∀ o∈v.ops,okI o.2.2∧o.2.1.size≤10000000
 row:OkRow v.pieces v.bound
 lits:v.lits.length≤1000000∧∀ z∈v.lits,okI z
 ids:v.ids.length≤1000000∧∀ x∈v.ids,x.size≤10000000
 num:v.num.size≤10000000
 s7:v.s7.size≤10000000
 s8:v.s8.size≤10000000
def idT(ids:List ByteArray):ByteArray:=match ids with | []=>ByteArray.empty | x::_=>(⟨#[32,58,32]⟩:ByteArray)++x
def endT(v:StepV):ByteArray:=
 if v.n6=1 then ⟨#[78,79,78,69]⟩ else if v.n6=3 then ⟨#[83,65,84]⟩ else if v.n6=2 then (⟨#[85,78,83,65,84]⟩:ByteArray)++idT v.ids
 else if v.n6=6 then ((⟨#[65,76,76,32]⟩:ByteArray)++v.s8)++idT v.ids
 else if v.n6=5 then ((((⟨#[66,79,85,78,68,83,32]⟩:ByteArray)++v.s7)++idT v.ids)++(⟨#[32]⟩:ByteArray))++v.s8 else ⟨#[]⟩
theorem idT_size{ids:List ByteArray}(h:∀ x∈ids,x.size≤10000000):(idT ids).size≤10000003:=by
 cases ids with
 | nil=>decide
 | cons x l=>
   have:=h x (by simp)
   unfold idT;rw[ba_size_append];show 3+_≤_;omega
theorem ends_ok(v:StepV)(h:OkStep v)(S:St):Triple P (C G) 64 [stepAV v] S fun o S'=>o=.ret (.str (endT v))∧S'=S:=by
 have hid:=idT_size h.ids.2
 have h7:=h.s7
 have h8:=h.s8
 obtain⟨kind,num,ops,pieces,bound,lits,ids,n6,s7,s8⟩:=v;dsimp only at hid h7 h8;unfold endT stepAV;dsimp only;refine triple_of_awp (hT G) hm Tryz.func64 rfl (by decide +kernel) rfl (by decide +kernel) (by show 1≤_;decide +kernel) rfl ?_
 refine awp_seq2 fun K hK hQ=>?_
 conv=>whnf
 intro b hb;conv=>whnf
 refine hK _ _ ?_;clear hK hQ K;have q:=St.upd_same S b (.obj 54 [.int .i64 kind,.str num,.sl .any 3 (rowsO ops),.sl .any 2 (rowsP pieces),.str bound,.sl .any 1 (rowsI lits),.sl .any 1 (rowsS ids),.int .i64 n6,.str s7,.str s8]);have hle:=St.le_upd' (St.le_refl S) hb (.obj 54 [.int .i64 kind,.str num,.sl .any 3 (rowsO ops),.sl .any 2 (rowsP pieces),.str bound,.sl .any 1 (rowsI lits),.sl .any 1 (rowsS ids),.int .i64 n6,.str s7,.str s8]);generalize S.upd b (.obj 54 [.int .i64 kind,.str num,.sl .any 3 (rowsO ops),.sl .any 2 (rowsP pieces),.str bound,.sl .any 1 (rowsI lits),.sl .any 1 (rowsS ids),.int .i64 n6,.str s7,.str s8])=S1 at *;refine awp_seq2 fun K hK hQ=>?_
 conv=>whnf
 refine hK _ _ ?_;clear hK hQ K;refine awp_seq2 fun K hK hQ=>?_
 conv=>whnf
 refine⟨_,_,q,?_⟩;conv=>whnf
 intro _
 cases ids with
 | nil=>
   conv=>whnf
   refine hK _ _ ?_;clear hK hQ K;rw[show(⟨#[]⟩:ByteArray)=idT [] from rfl];generalize idT []=it at *;refine awp_seq2 fun K hK hQ=>?_
   conv=>whnf
   refine⟨_,_,q,?_⟩;conv=>whnf
   refine split_of (fun h=>?_) (fun h=>?_)
   ·have h1:n6=1:=by simpa using h
    simp only[if_pos h1] at hQ;clear hK;conv=>whnf
    refine hQ _ _ _ (by simp) ?_
    conv=>whnf
    exact⟨_,_,⟨rfl,rfl⟩,hle,AV.leS_refl _ _ _⟩
   have h1:¬ n6=1:=by simpa using h
   simp only[if_neg h1] at hK hQ;conv=>whnf
   refine split_of (fun h=>?_) (fun h=>?_)
   ·have h1:n6=3:=by simpa using h
    simp only[if_pos h1] at hQ;clear hK;conv=>whnf
    refine hQ _ _ _ (by simp) ?_
    conv=>whnf
    exact⟨_,_,⟨rfl,rfl⟩,hle,AV.leS_refl _ _ _⟩
   have h2:¬ n6=3:=by simpa using h
   simp only[if_neg h2] at hK hQ;conv=>whnf
   refine split_of (fun h=>?_) (fun h=>?_)
   ·have h1:n6=2:=by simpa using h
    simp only[if_pos h1] at hQ;clear hK;conv=>whnf
    refine⟨by show 5+_≤_;omega,?_⟩
    conv=>whnf
    refine hQ _ _ _ (by simp) ?_
    conv=>whnf
    exact⟨_,_,⟨rfl,rfl⟩,hle,AV.leS_refl _ _ _⟩
   have h3:¬ n6=2:=by simpa using h
   simp only[if_neg h3] at hK hQ;conv=>whnf
   refine split_of (fun h=>?_) (fun h=>?_)
   ·have h1:n6=6:=by simpa using h
    simp only[if_pos h1] at hQ;clear hK;conv=>whnf
    refine⟨_,_,q,?_⟩;conv=>whnf
    refine⟨by show 4+_≤_;omega,?_⟩
    conv=>whnf
    refine⟨by rw[ba_size_append];show 4+_+_≤_;omega,?_⟩
    conv=>whnf
    refine hQ _ _ _ (by simp) ?_
    conv=>whnf
    exact⟨_,_,⟨rfl,rfl⟩,hle,AV.leS_refl _ _ _⟩
   have h4:¬ n6=6:=by simpa using h
   simp only[if_neg h4] at hK hQ;conv=>whnf
   refine split_of (fun h=>?_) (fun h=>?_)
   ·have h1:n6=5:=by simpa using h
    simp only[if_pos h1] at hQ;clear hK;conv=>whnf
    refine⟨_,_,q,?_⟩;conv=>whnf
    refine⟨by show 7+_≤_;omega,?_⟩
    conv=>whnf
    refine⟨by rw[ba_size_append];show 7+_+_≤_;omega,?_⟩
    conv=>whnf
    refine⟨by rw[ba_size_append,ba_size_append];show 7+_+_+1≤_;omega,?_⟩
    conv=>whnf
    refine⟨_,_,q,?_⟩;conv=>whnf
    refine⟨by rw[ba_size_append,ba_size_append,ba_size_append];show 7+_+_+1+_≤_;omega,?_⟩
    conv=>whnf
    refine hQ _ _ _ (by simp) ?_
    conv=>whnf
    exact⟨_,_,⟨rfl,rfl⟩,hle,AV.leS_refl _ _ _⟩
   have h5:¬ n6=5:=by simpa using h
   simp only[if_neg h5] at hK hQ;conv=>whnf
   refine hK _ _ ?_;clear hK hQ K;conv=>whnf
   exact⟨_,_,⟨rfl,rfl⟩,hle,AV.leS_refl _ _ _⟩
 | cons x l=>
   refine split_of (fun hh=>?_) (fun hh=>by simp[rowsS] at hh)
   conv=>whnf
   refine⟨_,_,q,?_⟩;conv=>whnf
   refine⟨_,⟨by omega,rfl⟩,?_⟩
   conv=>whnf
   refine⟨by show 3+x.size≤_;have:=h.ids.2 x (by simp);omega,?_⟩
   conv=>whnf
   refine hK _ _ ?_;clear hK hQ K;have hit:(⟨#[32,58,32]⟩:ByteArray)++x=idT (x::l):=rfl;rw[hit];generalize idT (x::l)=it at *;clear hit;refine awp_seq2 fun K hK hQ=>?_
   conv=>whnf
   refine⟨_,_,q,?_⟩;conv=>whnf
   refine split_of (fun h=>?_) (fun h=>?_)
   ·have h1:n6=1:=by simpa using h
    simp only[if_pos h1] at hQ;clear hK;conv=>whnf
    refine hQ _ _ _ (by simp) ?_
    conv=>whnf
    exact⟨_,_,⟨rfl,rfl⟩,hle,AV.leS_refl _ _ _⟩
   have h1:¬ n6=1:=by simpa using h
   simp only[if_neg h1] at hK hQ;conv=>whnf
   refine split_of (fun h=>?_) (fun h=>?_)
   ·have h1:n6=3:=by simpa using h
    simp only[if_pos h1] at hQ;clear hK;conv=>whnf
    refine hQ _ _ _ (by simp) ?_
    conv=>whnf
    exact⟨_,_,⟨rfl,rfl⟩,hle,AV.leS_refl _ _ _⟩
   have h2:¬ n6=3:=by simpa using h
   simp only[if_neg h2] at hK hQ;conv=>whnf
   refine split_of (fun h=>?_) (fun h=>?_)
   ·have h1:n6=2:=by simpa using h
    simp only[if_pos h1] at hQ;clear hK;conv=>whnf
    refine⟨by show 5+_≤_;omega,?_⟩
    conv=>whnf
    refine hQ _ _ _ (by simp) ?_
    conv=>whnf
    exact⟨_,_,⟨rfl,rfl⟩,hle,AV.leS_refl _ _ _⟩
   have h3:¬ n6=2:=by simpa using h
   simp only[if_neg h3] at hK hQ;conv=>whnf
   refine split_of (fun h=>?_) (fun h=>?_)
   ·have h1:n6=6:=by simpa using h
    simp only[if_pos h1] at hQ;clear hK;conv=>whnf
    refine⟨_,_,q,?_⟩;conv=>whnf
    refine⟨by show 4+_≤_;omega,?_⟩
    conv=>whnf
    refine⟨by rw[ba_size_append];show 4+_+_≤_;omega,?_⟩
    conv=>whnf
    refine hQ _ _ _ (by simp) ?_
    conv=>whnf
    exact⟨_,_,⟨rfl,rfl⟩,hle,AV.leS_refl _ _ _⟩
   have h4:¬ n6=6:=by simpa using h
   simp only[if_neg h4] at hK hQ;conv=>whnf
   refine split_of (fun h=>?_) (fun h=>?_)
   ·have h1:n6=5:=by simpa using h
    simp only[if_pos h1] at hQ;clear hK;conv=>whnf
    refine⟨_,_,q,?_⟩;conv=>whnf
    refine⟨by show 7+_≤_;omega,?_⟩
    conv=>whnf
    refine⟨by rw[ba_size_append];show 7+_+_≤_;omega,?_⟩
    conv=>whnf
    refine⟨by rw[ba_size_append,ba_size_append];show 7+_+_+1≤_;omega,?_⟩
    conv=>whnf
    refine⟨_,_,q,?_⟩;conv=>whnf
    refine⟨by rw[ba_size_append,ba_size_append,ba_size_append];show 7+_+_+1+_≤_;omega,?_⟩
    conv=>whnf
    refine hQ _ _ _ (by simp) ?_
    conv=>whnf
    exact⟨_,_,⟨rfl,rfl⟩,hle,AV.leS_refl _ _ _⟩
   have h5:¬ n6=5:=by simpa using h
   simp only[if_neg h5] at hK hQ;conv=>whnf
   refine hK _ _ ?_;clear hK hQ K;conv=>whnf
   exact⟨_,_,⟨rfl,rfl⟩,hle,AV.leS_refl _ _ _⟩
def spc:ByteArray:=⟨#[32]⟩
def catB(l:List ByteArray):ByteArray:=⟨(l.flatMap (·.data.toList)).toArray⟩
theorem catB_snoc(l:List ByteArray)(x:ByteArray):catB (l++[x])=catB l++x:=by
 apply ByteArray.ext
 apply Array.toList_inj.1
 rw[ByteArray.data_append,Array.toList_append]
 simp[catB]
theorem catB_size(l:List ByteArray)(k:Nat)(h:∀ x∈l,x.size≤k):(catB l).size≤l.length*k:=by
 induction l with
 | nil=>exact Nat.zero_le _
 | cons x l ih=>
   have h1:(catB (x::l)).size=x.size+(catB l).size:=by
    have hx:x.data.toList.length=x.size:=by rw[Array.length_toList];rfl
    simp only[catB,ByteArray.size,List.flatMap_cons,List.size_toArray,List.length_append,hx]
   have:=ih fun y hy=>h y (by simp[hy])
   have:=h x (by simp)
   rw[h1,List.length_cons,Nat.succ_mul];omega
theorem ba_assoc(a b c:ByteArray):(a++b)++c=a++(b++c):=by
 apply ByteArray.ext
 apply Array.toList_inj.1
 simp only[ByteArray.data_append,Array.toList_append,List.append_assoc]
def litRR(z:Int):ByteArray:=if z<0 then (⟨#[32,126,120]⟩:ByteArray)++itoaS (IntKind.i64.wrap (0-z)) else (⟨#[32,120]⟩:ByteArray)++itoaS z
theorem litRR_size(z:Int)(hz:okI z):(litRR z).size≤24:=by
 unfold litRR
 split
 ·have:=itoaS_le (IntKind.i64.wrap (0-z)) (wrap_okI _).1 (wrap_okI _).2
  rw[ba_size_append];show 3+_≤_;omega
 ·have:=itoaS_le z hz.1 hz.2
  rw[ba_size_append];show 2+_≤_;omega
theorem litText_r_ok(hG:G10 G)(z:Int)(hz:okI z)(S:St):Triple P (C G) 54 [.int .i64 z] S fun o S'=>o=.ret (.str (litRR z))∧S'=S:=by
 have h1:=fun S=>itoa_ok hG (IntKind.i64.wrap (0-z)) (wrap_okI _).1 (wrap_okI _).2 S
 have h2:=fun S=>itoa_ok hG z hz.1 hz.2 S
 have s1:=itoaS_le (IntKind.i64.wrap (0-z)) (wrap_okI _).1 (wrap_okI _).2
 have s2:=itoaS_le z hz.1 hz.2
 unfold litRR;refine triple_of_awp (hT G) hm Tryz.func54 rfl (by decide +kernel) rfl (by decide +kernel) (by show 1≤_;decide +kernel) rfl ?_
 conv=>whnf
 refine split_of (fun hlt=>?_) (fun hlt=>?_)
 ·have hlt:z<0:=of_decide_eq_true hlt
  rw[if_pos hlt];conv=>whnf
  refine(h1 _).mono ?_;rintro o T ⟨rfl,rfl⟩;conv=>whnf
  refine⟨by show 3+_≤_;omega,?_⟩
  conv=>whnf
  exact⟨_,_,⟨rfl,rfl⟩,St.le_refl _,AV.leS_refl _ _ _⟩
 ·have hlt:¬ z<0:=of_decide_eq_false hlt
  rw[if_neg hlt];conv=>whnf
  refine(h2 _).mono ?_;rintro o T ⟨rfl,rfl⟩;conv=>whnf
  refine⟨by show 2+_≤_;omega,?_⟩
  conv=>whnf
  exact⟨_,_,⟨rfl,rfl⟩,St.le_refl _,AV.leS_refl _ _ _⟩
def textsR(l:List ByteArray):ByteArray:=catB (l.map fun x=>spc++x)
theorem texts_r_ok(l:List ByteArray)(hl:l.length≤1000000)(hs:∀ x∈l,x.size≤10000000)(S:St):Triple P (C G) 53 [.sl .any 1 (rowsS l)] S fun o S'=>o=.ret (.str (textsR l))∧S'=S:=by
 have hsz:∀ i,i≤l.length→(catB ((l.take i).map fun x=>spc++x)).size≤i*10000001:=fun i hi=>by
  refine Nat.le_trans (catB_size _ 10000001 fun x hx=>?_) ?_
  ·obtain⟨y,hy,rfl⟩:=List.mem_map.1 hx;have:=hs y (List.mem_of_mem_take hy);rw[ba_size_append];show 1+_≤_;omega
  ·rw[List.length_map,List.length_take];exact Nat.mul_le_mul_right _ (Nat.min_le_left _ _)
 unfold textsR;refine triple_of_awp (hT G) hm Tryz.func53 rfl (by decide +kernel) rfl (by decide +kernel) (by show 1≤_;decide +kernel) rfl ?_
 refine awp_seq2 fun K hK hQ=>?_
 conv=>whnf
 refine hK _ _ ?_;clear hK hQ K;refine awp_seq2 fun K hK hQ=>?_
 conv=>whnf
 refine hK _ _ ?_;clear hK hQ K;refine awp_seq2 fun K hK hQ=>?_
 conv=>whnf
 refine⟨⟨Nat,fun i=>[(0,.sl .any 1 (rowsS l)),(3,.str (catB ((l.take i).map fun x=>spc++x))),(4,.int .i64 (i:Int))],fun i S1=>S1=S∧i≤l.length,fun i=>l.length-i⟩,
  ⟨0,⟨⟨rfl,rfl⟩,rfl,rfl,trivial⟩,_,St.leW_refl _,rfl,by omega⟩,?_⟩
 rintro(i:Nat) S1 ⟨rfl,hi⟩;have hb:=hsz i hi;conv=>whnf
 intro _;conv=>whnf
 refine split_of (fun hlt=>?_) (fun hlt=>?_)
 ·have hlt:i<l.length:=by have:=of_decide_eq_true hlt;rw[rowsS_len] at this;omega
  have ga:(rowsS l)[(i:Int).toNat]? = some [.str l[i]]:=by simp[rowsS,hlt]
  have w1:IntKind.i64.wrap ((i:Int)+1)=((i+1:Nat):Int):=wrap_nat (by omega)
  have hx:=hs _ (List.getElem_mem hlt)
  have hsn:catB ((l.take (i+1)).map fun x=>spc++x)=(catB ((l.take i).map fun x=>spc++x)++spc)++l[i]:=by
   rw[List.take_add_one,List.getElem?_eq_getElem hlt,List.map_append,ba_assoc];exact catB_snoc _ _
  generalize l[i]=x at *;conv=>whnf
  refine⟨by show _+1≤_;omega,?_⟩
  conv=>whnf
  refine⟨_,⟨by omega,ga⟩,?_⟩
  conv=>whnf
  refine⟨by rw[ba_size_append];show _+1+_≤_;omega,?_⟩
  conv=>whnf
  exact⟨i+1,⟨⟨rfl,rfl⟩,congrArg AV.str hsn.symm,congrArg _ w1,trivial⟩,⟨_,St.leW_refl _,rfl,hlt⟩,by show l.length-(i+1)<l.length-i;omega⟩
 ·have hlt:i=l.length:=by have:=of_decide_eq_false hlt;rw[rowsS_len] at this;omega
  subst hlt;conv=>whnf
  refine hK _ _ ?_;clear hK hQ K;conv=>whnf
  rw[List.take_length];exact⟨_,_,⟨rfl,rfl⟩,St.le_refl _,AV.leS_refl _ _ _⟩
def opR(o:OpV):ByteArray:=
 if o.1=1 then spc++o.2.1 else if o.1=2 then litRR o.2.2 else if o.1=3 then ⟨#[32,43]⟩ else if o.1=4 then (spc++o.2.1)++(⟨#[32,42]⟩:ByteArray) else if o.1=5 then (spc++o.2.1)++(⟨#[32,100]⟩:ByteArray)
 else if o.1=6 then ⟨#[32,115]⟩ else if o.1=7 then litRR o.2.2++(⟨#[32,119]⟩:ByteArray) else ⟨#[32,63]⟩
theorem opR_size(o:OpV)(hz:okI o.2.2)(hs:o.2.1.size≤10000000):(opR o).size≤10000030:=by
 have h1:=litRR_size o.2.2 hz
 unfold opR
 repeat' split
 all_goals first
  | (rw[ba_size_append,ba_size_append];show 1+_+2≤_;omega)
  | (rw[ba_size_append];show 1+_≤_;omega)
  | (rw[ba_size_append];show _+2≤_;omega)
  | omega
  | decide
theorem opText_r_ok(hG:G10 G)(o:OpV)(hz:okI o.2.2)(hs:o.2.1.size≤10000000)(S:St):Triple P (C G) 51 [opAV o] S fun r S'=>r=.ret (.str (opR o))∧S'=S:=by
 obtain⟨k,num,z⟩:=o;have hl:=fun S=>litText_r_ok hG z hz S
 have hls:=litRR_size z hz
 dsimp only at hs
 show Triple P (C G) 51 [.ag [.int .i64 k,.str num,.int .i64 z]] S fun r S'=>r=.ret (.str (opR (k,num,z)))∧S'=S
 have hk0:(k == 1)=true∨(k == 2)=true∨(k == 3)=true∨(k == 4)=true∨(k == 5)=true∨(k == 6)=true∨(k == 7)=true∨((k == 1)=false∧(k == 2)=false∧(k == 3)=false∧(k == 4)=false∧(k == 5)=false∧(k == 6)=false∧(k == 7)=false):=by
  simp only[beq_iff_eq,beq_eq_false_iff_ne];omega
 refine triple_of_awp (hT G) hm Tryz.func51 rfl (by decide +kernel) rfl (by decide +kernel) (by show 1≤_;decide +kernel) rfl ?_
 refine awp_seq2 fun K hK hQ=>?_
 conv=>whnf
 intro b hb;conv=>whnf
 refine hK _ _ ?_;clear hK hQ K;have hle:=St.le_upd' (St.le_refl S) hb (.obj 85 [.int .i64 k,.str num,.int .i64 z]);have q:=St.upd_same S b (.obj 85 [.int .i64 k,.str num,.int .i64 z]);generalize S.upd b (.obj 85 [.int .i64 k,.str num,.int .i64 z])=F at *;refine awp_seq2 fun K hK hQ=>?_
 rcases hk0 with h | h | h | h | h | h | h | ⟨h1,h2,h3,h4,h5,h6,h7⟩
 ·obtain rfl:k=1:=by simpa using h
  conv=>whnf
  refine⟨_,_,q,?_⟩;conv=>whnf
  refine⟨_,_,q,?_⟩;conv=>whnf
  refine⟨by show 1+_≤_;omega,?_⟩
  conv=>whnf
  refine hQ _ _ _ (by simp) ?_
  conv=>whnf
  exact⟨_,_,⟨rfl,rfl⟩,hle,AV.leS_refl _ _ _⟩
 ·obtain rfl:k=2:=by simpa using h
  conv=>whnf
  refine⟨_,_,q,?_⟩;conv=>whnf
  refine⟨_,_,q,?_⟩;conv=>whnf
  refine(hl _).mono ?_;rintro o T ⟨rfl,rfl⟩;conv=>whnf
  refine hQ _ _ _ (by simp) ?_
  conv=>whnf
  exact⟨_,_,⟨rfl,rfl⟩,hle,AV.leS_refl _ _ _⟩
 ·obtain rfl:k=3:=by simpa using h
  conv=>whnf
  refine⟨_,_,q,?_⟩;conv=>whnf
  refine hQ _ _ _ (by simp) ?_
  conv=>whnf
  exact⟨_,_,⟨rfl,rfl⟩,hle,AV.leS_refl _ _ _⟩
 ·obtain rfl:k=4:=by simpa using h
  conv=>whnf
  refine⟨_,_,q,?_⟩;conv=>whnf
  refine⟨_,_,q,?_⟩;conv=>whnf
  refine⟨by show 1+_≤_;omega,?_⟩
  conv=>whnf
  refine⟨by rw[ba_size_append];show 1+_+2≤_;omega,?_⟩
  conv=>whnf
  refine hQ _ _ _ (by simp) ?_
  conv=>whnf
  exact⟨_,_,⟨rfl,rfl⟩,hle,AV.leS_refl _ _ _⟩
 ·obtain rfl:k=5:=by simpa using h
  conv=>whnf
  refine⟨_,_,q,?_⟩;conv=>whnf
  refine⟨_,_,q,?_⟩;conv=>whnf
  refine⟨by show 1+_≤_;omega,?_⟩
  conv=>whnf
  refine⟨by rw[ba_size_append];show 1+_+2≤_;omega,?_⟩
  conv=>whnf
  refine hQ _ _ _ (by simp) ?_
  conv=>whnf
  exact⟨_,_,⟨rfl,rfl⟩,hle,AV.leS_refl _ _ _⟩
 ·obtain rfl:k=6:=by simpa using h
  conv=>whnf
  refine⟨_,_,q,?_⟩;conv=>whnf
  refine hQ _ _ _ (by simp) ?_
  conv=>whnf
  exact⟨_,_,⟨rfl,rfl⟩,hle,AV.leS_refl _ _ _⟩
 ·obtain rfl:k=7:=by simpa using h
  conv=>whnf
  refine⟨_,_,q,?_⟩;conv=>whnf
  refine⟨_,_,q,?_⟩;conv=>whnf
  refine(hl _).mono ?_;rintro o T ⟨rfl,rfl⟩;conv=>whnf
  refine⟨by show _+2≤_;omega,?_⟩
  conv=>whnf
  refine hQ _ _ _ (by simp) ?_
  conv=>whnf
  exact⟨_,_,⟨rfl,rfl⟩,hle,AV.leS_refl _ _ _⟩
 ·have e:opR (k,num,z)=⟨#[32,63]⟩:=by
   simp only[beq_eq_false_iff_ne] at h1 h2 h3 h4 h5 h6 h7;unfold opR;rw[if_neg h1,if_neg h2,if_neg h3,if_neg h4,if_neg h5,if_neg h6,if_neg h7]
  rw[e] at hK hQ;conv=>whnf
  refine⟨_,_,q,?_⟩;conv=>whnf
  rw[h1];conv=>whnf
  rw[h2];conv=>whnf
  rw[h3];conv=>whnf
  rw[h4];conv=>whnf
  rw[h5];conv=>whnf
  rw[h6];conv=>whnf
  rw[h7];conv=>whnf
  refine hK _ _ ?_;clear hK hQ K;conv=>whnf
  exact⟨_,_,⟨rfl,rfl⟩,hle,AV.leS_refl _ _ _⟩
structure TxAt (S₀ S:St) (b:Nat) (l:List ByteArray) (t:Nat):Prop where
 le:St.le S₀ S
 new:S₀ b=none
 at_:S b=some (.obj 52 [.sl (.acc t) 1 (rowsS l)])
 tip:TipOk S₀ S t 9 1 l.length
def Tx(S₀ S:St)(b:Nat)(l:List ByteArray):Prop:=∃ t,TxAt S₀ S b l t
theorem say_ok{S₀ S:St}{b:Nat}{l:List ByteArray}(h:Tx S₀ S b l)(xs:List ByteArray)(hn:l.length+xs.length≤100000000)(sh:Sh):Triple P (C G) 60 [.sl sh 1 (rowsS xs),.ref b 0] S fun o S'=>o=.ret (.tu [])∧Tx S₀ S' b (l++xs):=by
 obtain⟨t,hat⟩:=h;have hb:=hat.at_;refine triple_of_awp (hT G) hm Tryz.func60 rfl (by decide +kernel) rfl (by decide +kernel) (by show 2≤_;decide +kernel) rfl ?_
 conv=>whnf
 refine⟨_,_,hb,?_⟩;conv=>whnf
 cases xs with
 | nil=>
   conv=>whnf
   refine⟨⟨fun hl=>?_,?_⟩,?_⟩
   ·rw[rowsS_len];exact(hat.tip (by cases l<;>simp_all [rowsS])).1
   ·show((rowsS l).length+0)*16≤_
    rw[rowsS_len];omega
   conv=>whnf
   refine⟨_,_,hb,?_⟩;conv=>whnf
   refine⟨_,_,⟨rfl,t,?_⟩,St.le_refl _,AV.leS_refl _ _ _⟩;rw[St.upd_id hb,List.append_nil];exact hat
 | cons x xs=>
   conv=>whnf
   refine⟨⟨fun hl=>?_,?_⟩,fun S4 c1 c2 b' c3=>?_⟩
   ·rw[rowsS_len];exact(hat.tip (by cases l<;>simp_all [rowsS])).1
   ·show((rowsS l).length+(rowsS (x::xs)).length)*16≤_
    rw[rowsS_len,rowsS_len];simp at hn ⊢;omega
   have ha:AccStep S t 9 1 l.length (x::xs).length b' (S4.upd b' (.tip 9 1 (l.length+(x::xs).length))):=.inr ⟨by simp,S4,fun e=>c1 (by rw[List.eq_nil_of_length_eq_zero e];rfl),fun e=>c2 (by cases l<;>simp_all [rowsS]),c3,rfl⟩
   obtain⟨k1,k2⟩:=AccStep.tipOk hat.tip hat.le ha;have hk:=AccStep.other (fun hn=>(hat.tip hn).1) ha hb (by intro n' e;cases e)
   have er:rowsS l++rowsS (x::xs)=rowsS (l++(x::xs)):=by simp[rowsS]
   rw[show([AV.str x]::List.map (fun s=>[AV.str s]) xs)=rowsS (x::xs) from rfl,er,rowsS_len,rowsS_len]
   conv=>whnf
   refine⟨_,_,hk,?_⟩;conv=>whnf
   refine⟨_,_,⟨rfl,b',?_⟩,St.le_refl _,AV.leS_refl _ _ _⟩;exact⟨St.le_upd k2 hat.new _,hat.new,St.upd_same _ _ _,TipOk.upd (by rw[List.length_append];exact k1) hk _⟩
def sumS(l:List ByteArray):Nat:=(l.map (·.size)).sum
theorem sumS_append(a b:List ByteArray):sumS (a++b)=sumS a+sumS b:=by simp[sumS]
theorem sumS_le{l:List ByteArray}{k:Nat}(h:∀ x∈l,x.size≤k):sumS l≤l.length*k:=by
 induction l with
 | nil=>simp[sumS]
 | cons x l ih=>
   have:=ih (fun y hy=>h y (by simp[hy]))
   have hx:=h x (by simp)
   simp only[sumS,List.map_cons,List.sum_cons,List.length_cons,Nat.succ_mul] at this ⊢;omega
theorem joinS_sum(l:List ByteArray)(sep:ByteArray):(joinS l sep).size≤sumS l+l.length*sep.size:=by
 have e:∀ b:ByteArray,b.data.toList.length=b.size:=fun b=>by rw[Array.length_toList];rfl
 have h1:(joinS l sep).size=(Lib.join (l.map (·.data.toList)) sep.data.toList).length:=by unfold joinS;simp[ByteArray.size]
 rw[h1]
 cases l with
 | nil=>simp[Lib.join_nil]
 | cons x l=>
   rw[List.map_cons,Lib.join_cons,List.length_append,e];have ht:∀ l:List ByteArray,(Lib.joinTail sep.data.toList (l.map (·.data.toList))).length≤sumS l+l.length*sep.size:=by
    intro l
    induction l with
    | nil=>simp[Lib.joinTail]
    | cons y l ih=>
      unfold Lib.joinTail at ih ⊢;rw[List.map_cons,List.map_cons,List.flatten_cons,List.length_append,List.length_append,e,e,List.length_cons,Nat.succ_mul];simp only[sumS,List.map_cons,List.sum_cons] at ih ⊢;omega
   have:=ht l
   simp only[sumS,List.map_cons,List.sum_cons,List.length_cons,Nat.succ_mul] at this ⊢;omega
def w1S:ByteArray:=⟨#[112,115,101,117,100,111,45,66,111,111,108,101,97,110,32,112,114,111,111,102,32,118,101,114,115,105,111,110,32,50,46,48]⟩
def w8S:ByteArray:=⟨#[111,117,116,112,117,116,32,78,79,78,69]⟩
def w10S:ByteArray:=⟨#[101,110,100,32,112,115,101,117,100,111,45,66,111,111,108,101,97,110,32,112,114,111,111,102]⟩
def textW(v:StepV):List ByteArray:=
 if v.kind=1 then [w1S] else if v.kind=2 then [kF,v.num] else if v.kind=3 then [kPol]++v.ops.map opT
 else if v.kind=4 then [kRup,rowT v.pieces v.bound]++v.ids else if v.kind=12 then ([kE]++v.ids)++[rowT v.pieces v.bound]
 else if v.kind=5 then [kSoli]++litsT v.lits else if v.kind=11 then [kSolx]++litsT v.lits else if v.kind=6 then [kDel,⟨#[105,100]⟩]++v.ids
 else if v.kind=7 then [kStar] else if v.kind=8 then [w8S] else if v.kind=9 then [kConc,endT v] else if v.kind=10 then [w10S] else []
def textT(v:StepV):ByteArray:=joinS (textW v) spaceS
theorem Tx.new{S:St}{b:Nat}(hb:S b=none):∃ S3,St.leW S3 (S.upd b (.obj 52 [.nils]))∧Tx S S3 b []:=by
 have h1:=St.leW_upd (cs':=[.sl (.acc 0) 1 (rowsS [])]) (St.upd_same S b (.obj 52 [.nils])) ⟨rfl,trivial⟩
 rw[St.upd_upd] at h1;exact⟨_,h1,0,St.le_upd' (St.le_refl _) hb _,hb,St.upd_same _ _ _,fun h=>absurd h (by decide)⟩
theorem sumS_cons(x:ByteArray)(l:List ByteArray):sumS (x::l)=x.size+sumS l:=by simp[sumS]
theorem sumS_nil:sumS []=0:=rfl
theorem opT_size(o:OpV)(h:okI o.2.2∧o.2.1.size≤10000000):(opT o).size≤10000025:=by
 have hl:=litT_size o.2.2 h.1
 have hs:=h.2
 unfold opT
 split
 ·omega
 split
 ·omega
 split
 ·decide
 split
 ·rw[ba_size_append];show _+2≤_;omega
 split
 ·rw[ba_size_append];show _+2≤_;omega
 split
 ·decide
 split
 ·rw[ba_size_append];show _+2≤_;omega
 ·decide
theorem endT_size{v:StepV}(h:OkStep v):(endT v).size≤40000000:=by
 have h1:=idT_size h.ids.2
 have h7:=h.s7
 have h8:=h.s8
 unfold endT
 split
 ·decide
 split
 ·decide
 split
 ·rw[ba_size_append];show 5+_≤_;omega
 split
 ·rw[ba_size_append,ba_size_append];show 4+_+_≤_;omega
 split
 ·rw[ba_size_append,ba_size_append,ba_size_append,ba_size_append];show 7+_+_+1+_≤_;omega
 ·decide
theorem rowT_size{ps:List (ByteArray×Int)}{bound:ByteArray}(h:OkRow ps bound):(rowT ps bound).size≤30000000000000:=by
 have hj:=joinS_size (pieceT ps++[geS,bound,semiS]) spaceS (pieceT_size h) (m:=1) (by decide)
 have:=h.1
 have hp:=pieceT_len ps
 unfold rowT;rw[List.length_append,hp] at hj;simp only[List.length_cons,List.length_nil] at hj;omega
set_option maxHeartbeats 1000000 in
theorem textW_bound{v:StepV}(h:OkStep v):(textW v).length≤2000000∧sumS (textW v)≤100000000000000:=by
 have hr:=rowT_size h.row
 have he:=endT_size h
 have ho:sumS (v.ops.map opT)≤(v.ops.map opT).length*10000025:=sumS_le (fun x hx=>by
  obtain⟨o,ho,rfl⟩:=List.mem_map.1 hx;exact opT_size o (h.ops.2 o ho))
 have hi:sumS v.ids≤v.ids.length*10000000:=sumS_le h.ids.2
 have hl:sumS (litsT v.lits)≤(litsT v.lits).length*23:=sumS_le (fun x hx=>by
  unfold litsT at hx;obtain⟨z,hz,rfl⟩:=List.mem_map.1 hx;exact litT_size z (h.lits.2 z hz))
 have hll:(litsT v.lits).length=v.lits.length:=by simp[litsT]
 rw[List.length_map] at ho;rw[hll] at hl;have h1:=h.ops.1;have h2:=h.ids.1;have h3:=h.lits.1;have h4:=h.num;have e1:w1S.size=32:=rfl;have e2:kF.size=1:=rfl;have e3:kPol.size=3:=rfl;have e4:kRup.size=3:=rfl;have e5:kE.size=1:=rfl;have e6:kSoli.size=4:=rfl;have e7:kSolx.size=4:=rfl;have e8:kDel.size=3:=rfl;have e9:kStar.size=1:=rfl;have e10:w8S.size=11:=rfl;have e11:kConc.size=10:=rfl;have e12:w10S.size=24:=rfl;have e13:(⟨#[105,100]⟩:ByteArray).size=2:=rfl;unfold textW
 by_cases k0:v.kind=1
 ·rw[if_pos k0];(simp only[sumS_append,sumS_cons,sumS_nil,List.length_append,List.length_cons,List.length_nil,List.length_map,hll];constructor<;>omega)
 rw[if_neg k0]
 by_cases k1:v.kind=2
 ·rw[if_pos k1];(simp only[sumS_append,sumS_cons,sumS_nil,List.length_append,List.length_cons,List.length_nil,List.length_map,hll];constructor<;>omega)
 rw[if_neg k1]
 by_cases k2:v.kind=3
 ·rw[if_pos k2];(simp only[sumS_append,sumS_cons,sumS_nil,List.length_append,List.length_cons,List.length_nil,List.length_map,hll];constructor<;>omega)
 rw[if_neg k2]
 by_cases k3:v.kind=4
 ·rw[if_pos k3];(simp only[sumS_append,sumS_cons,sumS_nil,List.length_append,List.length_cons,List.length_nil,List.length_map,hll];constructor<;>omega)
 rw[if_neg k3]
 by_cases k4:v.kind=12
 ·rw[if_pos k4];(simp only[sumS_append,sumS_cons,sumS_nil,List.length_append,List.length_cons,List.length_nil,List.length_map,hll];constructor<;>omega)
 rw[if_neg k4]
 by_cases k5:v.kind=5
 ·rw[if_pos k5];(simp only[sumS_append,sumS_cons,sumS_nil,List.length_append,List.length_cons,List.length_nil,List.length_map,hll];constructor<;>omega)
 rw[if_neg k5]
 by_cases k6:v.kind=11
 ·rw[if_pos k6];(simp only[sumS_append,sumS_cons,sumS_nil,List.length_append,List.length_cons,List.length_nil,List.length_map,hll];constructor<;>omega)
 rw[if_neg k6]
 by_cases k7:v.kind=6
 ·rw[if_pos k7];(simp only[sumS_append,sumS_cons,sumS_nil,List.length_append,List.length_cons,List.length_nil,List.length_map,hll];constructor<;>omega)
 rw[if_neg k7]
 by_cases k8:v.kind=7
 ·rw[if_pos k8];(simp only[sumS_append,sumS_cons,sumS_nil,List.length_append,List.length_cons,List.length_nil,List.length_map,hll];constructor<;>omega)
 rw[if_neg k8]
 by_cases k9:v.kind=8
 ·rw[if_pos k9];(simp only[sumS_append,sumS_cons,sumS_nil,List.length_append,List.length_cons,List.length_nil,List.length_map,hll];constructor<;>omega)
 rw[if_neg k9]
 by_cases k10:v.kind=9
 ·rw[if_pos k10];(simp only[sumS_append,sumS_cons,sumS_nil,List.length_append,List.length_cons,List.length_nil,List.length_map,hll];constructor<;>omega)
 rw[if_neg k10]
 by_cases k11:v.kind=10
 ·rw[if_pos k11];(simp only[sumS_append,sumS_cons,sumS_nil,List.length_append,List.length_cons,List.length_nil,List.length_map,hll];constructor<;>omega)
 rw[if_neg k11];exact⟨by decide,by rw[sumS_nil];exact Nat.zero_le _⟩
theorem textT_size{v:StepV}(h:OkStep v):(textT v).size≤140737488355328:=by
 have h1:=joinS_sum (textW v) spaceS
 obtain⟨h2,h3⟩:=textW_bound h;have e:spaceS.size=1:=rfl;rw[e,Nat.mul_one] at h1;unfold textT;omega
def pieceR(p:ByteArray×Int):ByteArray:=(spc++p.1)++litRR p.2
def rowR(ps:List (ByteArray×Int))(bound:ByteArray):ByteArray:=((catB (ps.map pieceR)++(⟨#[32,62,61,32]⟩:ByteArray))++bound)++(⟨#[32,59]⟩:ByteArray)
theorem rowText_r_ok(hG:G10 G)(ps:List (ByteArray×Int))(bound:ByteArray)(h:OkRow ps bound)(S:St):Triple P (C G) 52 [.ag [.sl .any 2 (rowsP ps),.str bound]] S fun r S'=>r=.ret (.str (rowR ps bound))∧S'=S:=by
 obtain⟨hn,hp,hbo⟩:=h;have hsz:∀ i,i≤ps.length→(catB ((ps.take i).map pieceR)).size≤i*10000100:=fun i hi=>by
  refine Nat.le_trans (catB_size _ 10000100 fun x hx=>?_) ?_
  ·obtain⟨y,hy,rfl⟩:=List.mem_map.1 hx;obtain⟨h1,h2⟩:=hp y (List.mem_of_mem_take hy);have:=litRR_size y.2 h1;unfold pieceR;rw[ba_size_append,ba_size_append];show 1+_+_≤_;omega
  ·rw[List.length_map,List.length_take];exact Nat.mul_le_mul_right _ (Nat.min_le_left _ _)
 unfold rowR;refine triple_of_awp (hT G) hm Tryz.func52 rfl (by decide +kernel) rfl (by decide +kernel) (by show 1≤_;decide +kernel) rfl ?_
 refine awp_seq2 fun K hK hQ=>?_
 conv=>whnf
 intro b1 hb1;conv=>whnf
 refine hK _ _ ?_;clear hK hQ K;have hle:=St.le_upd' (St.le_refl S) hb1 (.obj 51 [.sl .any 2 (rowsP ps),.str bound]);have q:=St.upd_same S b1 (.obj 51 [.sl .any 2 (rowsP ps),.str bound]);generalize S.upd b1 (.obj 51 [.sl .any 2 (rowsP ps),.str bound])=F at *;refine awp_seq2 fun K hK hQ=>?_
 conv=>whnf
 refine hK _ _ ?_;clear hK hQ K;refine awp_seq2 fun K hK hQ=>?_
 conv=>whnf
 refine⟨⟨Nat,fun i=>[(1,.ref b1 0),(3,.str (catB ((ps.take i).map pieceR))),(4,.int .i64 (i:Int))],fun i S1=>S1=F∧i≤ps.length,fun i=>ps.length-i⟩,
  ⟨0,⟨rfl,rfl,rfl,trivial⟩,_,St.leW_refl _,rfl,by omega⟩,?_⟩
 rintro(i:Nat) S1 ⟨rfl,hi⟩;have hb:=hsz i hi;conv=>whnf
 refine⟨_,_,q,?_⟩;conv=>whnf
 intro _;conv=>whnf
 refine split_of (fun hlt=>?_) (fun hlt=>?_)
 ·have hlt:i<ps.length:=by have:=of_decide_eq_true hlt;rw[rowsP_len] at this;omega
  have ga:(rowsP ps)[(i:Int).toNat]? = some [.str ps[i].1,.int .i64 ps[i].2]:=by simp[rowsP,hlt]
  have w1:IntKind.i64.wrap ((i:Int)+1)=((i+1:Nat):Int):=wrap_nat (by omega)
  obtain⟨hx1,hx2⟩:=hp _ (List.getElem_mem hlt);have hsn:catB ((ps.take (i+1)).map pieceR)=((catB ((ps.take i).map pieceR)++spc)++ps[i].1)++litRR ps[i].2:=by
   rw[List.take_add_one,List.getElem?_eq_getElem hlt,List.map_append,ba_assoc,ba_assoc];exact(catB_snoc _ _).trans (by unfold pieceR;rw[ba_assoc])
  generalize ps[i]=x at *;obtain⟨xc,xl⟩:=x;dsimp only at ga hx1 hx2 hsn;have hls:=litRR_size xl hx1;have hl:=fun S=>litText_r_ok hG xl hx1 S
  conv=>whnf
  refine⟨[15],(.free 0 (.free 1 (.free 2 (.free 3 (.free 4 (.free 5 (.free 6 (.free 7 (.free 8 (.free 9 (.free 10 (.free 11 (.free 12 (.free 13 (.free 14 (.free 15 (.free 16 (.free 17 .done)))))))))))))))))),_,by decide +kernel,?_,fun _ _ h=>⟨_,.inl rfl,h⟩⟩
  conv=>whnf
  refine⟨by show _+1≤_;omega,?_⟩
  conv=>whnf
  refine⟨_,_,q,?_⟩;conv=>whnf
  refine⟨_,⟨by omega,ga⟩,?_⟩
  conv=>whnf
  refine⟨by rw[ba_size_append];show _+1+_≤_;omega,?_⟩
  conv=>whnf
  refine⟨_,_,q,?_⟩;conv=>whnf
  refine⟨_,⟨by omega,ga⟩,?_⟩
  conv=>whnf
  refine⟨.str (litRR xl),(hl _).mono ?_,?_⟩
  ·rintro o S' ⟨rfl,rfl⟩;exact⟨rfl,rfl⟩
  conv=>whnf
  refine⟨by rw[ba_size_append,ba_size_append];show _+1+_+_≤_;omega,?_⟩
  conv=>whnf
  exact⟨i+1,⟨rfl,congrArg AV.str hsn.symm,congrArg _ w1,trivial⟩,⟨_,St.leW_refl _,rfl,hlt⟩,by show ps.length-(i+1)<ps.length-i;omega⟩
 ·have hlt:i=ps.length:=by have:=of_decide_eq_false hlt;rw[rowsP_len] at this;omega
  subst hlt;conv=>whnf
  refine hK _ _ ?_;clear hK hQ K;rw[List.take_length] at hb;conv=>whnf
  rw[List.take_length];refine⟨by show _+4≤_;omega,?_⟩
  conv=>whnf
  refine⟨_,_,q,?_⟩;conv=>whnf
  refine⟨by rw[ba_size_append];show _+4+_≤_;omega,?_⟩
  conv=>whnf
  refine⟨by rw[ba_size_append,ba_size_append];show _+4+_+2≤_;omega,?_⟩
  conv=>whnf
  exact⟨_,_,⟨rfl,rfl⟩,hle,AV.leS_refl _ _ _⟩
def idR(ids:List ByteArray):ByteArray:=match ids with | []=>⟨#[]⟩ | x::l=>(⟨#[32,58]⟩:ByteArray)++textsR (x::l)
def endR(v:StepV):ByteArray:=
 if v.n6=1 then (⟨#[32,78,79,78,69]⟩:ByteArray) else if v.n6=2 then (⟨#[32,85,78,83,65,84]⟩:ByteArray)++idR v.ids else if v.n6=3 then (⟨#[32,83,65,84]⟩:ByteArray) else if v.n6=5 then ((((⟨#[32,66,79,85,78,68,83,32]⟩:ByteArray)++v.s7)++idR v.ids)++spc)++v.s8 else if v.n6=6 then ((⟨#[32,65,76,76,32]⟩:ByteArray)++v.s8)++idR v.ids else (⟨#[32,63]⟩:ByteArray)
theorem textsR_size(l:List ByteArray)(hl:l.length≤1000000)(hs:∀ x∈l,x.size≤10000000):(textsR l).size≤10000001000000:=by
 unfold textsR;refine Nat.le_trans (catB_size _ 10000001 fun x hx=>?_) ?_
 ·obtain⟨y,hy,rfl⟩:=List.mem_map.1 hx;have:=hs y hy;rw[ba_size_append];show 1+_≤_;omega
 ·rw[List.length_map];omega
theorem idR_size(l:List ByteArray)(hl:l.length≤1000000)(hs:∀ x∈l,x.size≤10000000):(idR l).size≤10000001000002:=by
 have:=textsR_size l hl hs
 cases l with
 | nil=>exact Nat.zero_le _
 | cons x l=>unfold idR;rw[ba_size_append];show 2+_≤_;omega
theorem endR_size{v:StepV}(h:OkStep v):(endR v).size≤10000100000000:=by
 have:=idR_size v.ids h.ids.1 h.ids.2
 have:=h.s7
 have:=h.s8
 unfold endR
 repeat' split
 all_goals first
  | (rw[ba_size_append,ba_size_append,ba_size_append,ba_size_append];show 8+_+_+1+_≤_;omega)
  | (rw[ba_size_append,ba_size_append];show 5+_+_≤_;omega)
  | (rw[ba_size_append];show 6+_≤_;omega)
  | decide
theorem endText_r_ok(v:StepV)(h:OkStep v)(S:St):Triple P (C G) 55 [stepAV v] S fun r S'=>r=.ret (.str (endR v))∧S'=S:=by
 have htx:=fun S=>texts_r_ok (G:=G) v.ids h.ids.1 h.ids.2 S
 have hts:=textsR_size v.ids h.ids.1 h.ids.2
 have hid:=idR_size v.ids h.ids.1 h.ids.2
 have hs7:=h.s7
 have hs8:=h.s8
 clear h;refine triple_of_awp (hT G) hm Tryz.func55 rfl (by decide +kernel) rfl (by decide +kernel) (by show 1≤_;decide +kernel) rfl ?_
 refine awp_seq2 fun K hK hQ=>?_
 conv=>whnf
 intro b1 hb1;conv=>whnf
 refine hK _ _ ?_;clear hK hQ K;have hle:=St.le_upd' (St.le_refl S) hb1 (.obj 54 (stepR v));have q:=St.upd_same S b1 (.obj 54 (stepR v));unfold stepR at hle q;change awp _ _ _ _ (S.upd b1 (.obj 54 [.int .i64 v.kind,.str v.num,.sl .any 3 (rowsO v.ops),.sl .any 2 (rowsP v.pieces),.str v.bound,.sl .any 1 (rowsI v.lits),.sl .any 1 (rowsS v.ids),.int .i64 v.n6,.str v.s7,.str v.s8])) _;generalize S.upd b1 (.obj 54 [.int .i64 v.kind,.str v.num,.sl .any 3 (rowsO v.ops),.sl .any 2 (rowsP v.pieces),.str v.bound,.sl .any 1 (rowsI v.lits),.sl .any 1 (rowsS v.ids),.int .i64 v.n6,.str v.s7,.str v.s8])=F at *;refine awp_seq2 fun K hK hQ=>?_
 conv=>whnf
 refine hK _ _ ?_;clear hK hQ K;refine awp_seq2 fun K hK hQ=>?_
 cases hv:v.ids with
 | nil=>
   have hir:idR v.ids=⟨#[]⟩:=by rw[hv];rfl
   rw[hv] at q;conv=>whnf
   refine⟨_,_,q,?_⟩;conv=>whnf
   intro _;conv=>whnf
   refine hK _ _ ?_;clear hK hQ K;rw[show(⟨#[]⟩:ByteArray)=idR v.ids from hir.symm];obtain⟨ID,hID⟩:∃ x,idR v.ids=x:=⟨_,rfl⟩;rw[hID] at hid ⊢
   -- #1 q
   have hk0:(v.n6 == 1)=true∨(v.n6 == 2)=true∨(v.n6 == 3)=true∨(v.n6 == 5)=true∨(v.n6 == 6)=true∨((v.n6 == 1)=false∧(v.n6 == 2)=false∧(v.n6 == 3)=false∧(v.n6 == 5)=false∧(v.n6 == 6)=false):=by
    simp only[beq_iff_eq,beq_eq_false_iff_ne];omega
   refine awp_seq2 fun K hK hQ=>?_
   rcases hk0 with h | h | h | h | h | ⟨h1,h2,h3,h5,h6⟩
   ·skip
    have hk:v.n6=1:=by simpa using h
    have e:endR v=(if (1:Int)=1 then (⟨#[32,78,79,78,69]⟩:ByteArray) else if (1:Int)=2 then (⟨#[32,85,78,83,65,84]⟩:ByteArray)++ID else if (1:Int)=3 then (⟨#[32,83,65,84]⟩:ByteArray) else if (1:Int)=5 then ((((⟨#[32,66,79,85,78,68,83,32]⟩:ByteArray)++v.s7)++ID)++spc)++v.s8 else if (1:Int)=6 then ((⟨#[32,65,76,76,32]⟩:ByteArray)++v.s8)++ID else (⟨#[32,63]⟩:ByteArray)):=by unfold endR;rw[hk,hID]
    rw[e] at hK hQ;rw[hk] at q;conv=>whnf
    refine⟨_,_,q,?_⟩;conv=>whnf
    refine hQ _ _ _ (by simp) ?_
    conv=>whnf
    exact⟨_,_,⟨rfl,rfl⟩,hle,AV.leS_refl _ _ _⟩
   ·skip
    have hk:v.n6=2:=by simpa using h
    have e:endR v=(if (2:Int)=1 then (⟨#[32,78,79,78,69]⟩:ByteArray) else if (2:Int)=2 then (⟨#[32,85,78,83,65,84]⟩:ByteArray)++ID else if (2:Int)=3 then (⟨#[32,83,65,84]⟩:ByteArray) else if (2:Int)=5 then ((((⟨#[32,66,79,85,78,68,83,32]⟩:ByteArray)++v.s7)++ID)++spc)++v.s8 else if (2:Int)=6 then ((⟨#[32,65,76,76,32]⟩:ByteArray)++v.s8)++ID else (⟨#[32,63]⟩:ByteArray)):=by unfold endR;rw[hk,hID]
    rw[e] at hK hQ;rw[hk] at q;conv=>whnf
    refine⟨_,_,q,?_⟩;conv=>whnf
    refine⟨by show 6+_≤_;omega,?_⟩
    conv=>whnf
    refine hQ _ _ _ (by simp) ?_
    conv=>whnf
    exact⟨_,_,⟨rfl,rfl⟩,hle,AV.leS_refl _ _ _⟩
   ·skip
    have hk:v.n6=3:=by simpa using h
    have e:endR v=(if (3:Int)=1 then (⟨#[32,78,79,78,69]⟩:ByteArray) else if (3:Int)=2 then (⟨#[32,85,78,83,65,84]⟩:ByteArray)++ID else if (3:Int)=3 then (⟨#[32,83,65,84]⟩:ByteArray) else if (3:Int)=5 then ((((⟨#[32,66,79,85,78,68,83,32]⟩:ByteArray)++v.s7)++ID)++spc)++v.s8 else if (3:Int)=6 then ((⟨#[32,65,76,76,32]⟩:ByteArray)++v.s8)++ID else (⟨#[32,63]⟩:ByteArray)):=by unfold endR;rw[hk,hID]
    rw[e] at hK hQ;rw[hk] at q;conv=>whnf
    refine⟨_,_,q,?_⟩;conv=>whnf
    refine hQ _ _ _ (by simp) ?_
    conv=>whnf
    exact⟨_,_,⟨rfl,rfl⟩,hle,AV.leS_refl _ _ _⟩
   ·skip
    have hk:v.n6=5:=by simpa using h
    have e:endR v=(if (5:Int)=1 then (⟨#[32,78,79,78,69]⟩:ByteArray) else if (5:Int)=2 then (⟨#[32,85,78,83,65,84]⟩:ByteArray)++ID else if (5:Int)=3 then (⟨#[32,83,65,84]⟩:ByteArray) else if (5:Int)=5 then ((((⟨#[32,66,79,85,78,68,83,32]⟩:ByteArray)++v.s7)++ID)++spc)++v.s8 else if (5:Int)=6 then ((⟨#[32,65,76,76,32]⟩:ByteArray)++v.s8)++ID else (⟨#[32,63]⟩:ByteArray)):=by unfold endR;rw[hk,hID]
    rw[e] at hK hQ;rw[hk] at q;conv=>whnf
    refine⟨_,_,q,?_⟩;conv=>whnf
    refine⟨_,_,q,?_⟩;conv=>whnf
    refine⟨by show 8+_≤_;omega,?_⟩
    conv=>whnf
    refine⟨by rw[ba_size_append];show 8+_+_≤_;omega,?_⟩
    conv=>whnf
    refine⟨by rw[ba_size_append,ba_size_append];show 8+_+_+1≤_;omega,?_⟩
    conv=>whnf
    refine⟨_,_,q,?_⟩;conv=>whnf
    refine⟨by rw[ba_size_append,ba_size_append,ba_size_append];show 8+_+_+1+_≤_;omega,?_⟩
    conv=>whnf
    refine hQ _ _ _ (by simp) ?_
    conv=>whnf
    exact⟨_,_,⟨rfl,rfl⟩,hle,AV.leS_refl _ _ _⟩
   ·skip
    have hk:v.n6=6:=by simpa using h
    have e:endR v=(if (6:Int)=1 then (⟨#[32,78,79,78,69]⟩:ByteArray) else if (6:Int)=2 then (⟨#[32,85,78,83,65,84]⟩:ByteArray)++ID else if (6:Int)=3 then (⟨#[32,83,65,84]⟩:ByteArray) else if (6:Int)=5 then ((((⟨#[32,66,79,85,78,68,83,32]⟩:ByteArray)++v.s7)++ID)++spc)++v.s8 else if (6:Int)=6 then ((⟨#[32,65,76,76,32]⟩:ByteArray)++v.s8)++ID else (⟨#[32,63]⟩:ByteArray)):=by unfold endR;rw[hk,hID]
    rw[e] at hK hQ;rw[hk] at q;conv=>whnf
    refine⟨_,_,q,?_⟩;conv=>whnf
    refine⟨_,_,q,?_⟩;conv=>whnf
    refine⟨by show 5+_≤_;omega,?_⟩
    conv=>whnf
    refine⟨by rw[ba_size_append];show 5+_+_≤_;omega,?_⟩
    conv=>whnf
    refine hQ _ _ _ (by simp) ?_
    conv=>whnf
    exact⟨_,_,⟨rfl,rfl⟩,hle,AV.leS_refl _ _ _⟩
   ·have e:endR v=(⟨#[32,63]⟩:ByteArray):=by
     simp only[beq_eq_false_iff_ne] at h1 h2 h3 h5 h6;unfold endR;rw[if_neg h1,if_neg h2,if_neg h3,if_neg h5,if_neg h6]
    rw[e] at hK hQ;conv=>whnf
    refine⟨_,_,q,?_⟩;conv=>whnf
    rw[h1];conv=>whnf
    rw[h2];conv=>whnf
    rw[h3];conv=>whnf
    rw[h5];conv=>whnf
    rw[h6];conv=>whnf
    refine hK _ _ ?_;clear hK hQ K;conv=>whnf
    exact⟨_,_,⟨rfl,rfl⟩,hle,AV.leS_refl _ _ _⟩
 | cons x l=>
   have hir:idR v.ids=(⟨#[32,58]⟩:ByteArray)++textsR v.ids:=by rw[hv];rfl
   have hpos:(((rowsS v.ids).length:Int) > 0):=by rw[rowsS_len,hv];simp
   conv=>whnf
   refine⟨_,_,q,?_⟩;conv=>whnf
   intro _;conv=>whnf
   rw[decide_eq_true hpos];conv=>whnf
   refine⟨_,_,q,?_⟩;conv=>whnf
   refine(htx _).mono ?_;rintro o T ⟨rfl,rfl⟩;conv=>whnf
   refine⟨by show 2+_≤_;omega,?_⟩
   conv=>whnf
   refine hK _ _ ?_;clear hK hQ K;rw[show(⟨#[32,58]⟩:ByteArray)++textsR v.ids=idR v.ids from hir.symm];obtain⟨ID,hID⟩:∃ x,idR v.ids=x:=⟨_,rfl⟩;rw[hID] at hid ⊢
   -- #1 q
   have hk0:(v.n6 == 1)=true∨(v.n6 == 2)=true∨(v.n6 == 3)=true∨(v.n6 == 5)=true∨(v.n6 == 6)=true∨((v.n6 == 1)=false∧(v.n6 == 2)=false∧(v.n6 == 3)=false∧(v.n6 == 5)=false∧(v.n6 == 6)=false):=by
    simp only[beq_iff_eq,beq_eq_false_iff_ne];omega
   refine awp_seq2 fun K hK hQ=>?_
   rcases hk0 with h | h | h | h | h | ⟨h1,h2,h3,h5,h6⟩
   ·skip
    have hk:v.n6=1:=by simpa using h
    have e:endR v=(if (1:Int)=1 then (⟨#[32,78,79,78,69]⟩:ByteArray) else if (1:Int)=2 then (⟨#[32,85,78,83,65,84]⟩:ByteArray)++ID else if (1:Int)=3 then (⟨#[32,83,65,84]⟩:ByteArray) else if (1:Int)=5 then ((((⟨#[32,66,79,85,78,68,83,32]⟩:ByteArray)++v.s7)++ID)++spc)++v.s8 else if (1:Int)=6 then ((⟨#[32,65,76,76,32]⟩:ByteArray)++v.s8)++ID else (⟨#[32,63]⟩:ByteArray)):=by unfold endR;rw[hk,hID]
    rw[e] at hK hQ;rw[hk] at q;conv=>whnf
    refine⟨_,_,q,?_⟩;conv=>whnf
    refine hQ _ _ _ (by simp) ?_
    conv=>whnf
    exact⟨_,_,⟨rfl,rfl⟩,hle,AV.leS_refl _ _ _⟩
   ·skip
    have hk:v.n6=2:=by simpa using h
    have e:endR v=(if (2:Int)=1 then (⟨#[32,78,79,78,69]⟩:ByteArray) else if (2:Int)=2 then (⟨#[32,85,78,83,65,84]⟩:ByteArray)++ID else if (2:Int)=3 then (⟨#[32,83,65,84]⟩:ByteArray) else if (2:Int)=5 then ((((⟨#[32,66,79,85,78,68,83,32]⟩:ByteArray)++v.s7)++ID)++spc)++v.s8 else if (2:Int)=6 then ((⟨#[32,65,76,76,32]⟩:ByteArray)++v.s8)++ID else (⟨#[32,63]⟩:ByteArray)):=by unfold endR;rw[hk,hID]
    rw[e] at hK hQ;rw[hk] at q;conv=>whnf
    refine⟨_,_,q,?_⟩;conv=>whnf
    refine⟨by show 6+_≤_;omega,?_⟩
    conv=>whnf
    refine hQ _ _ _ (by simp) ?_
    conv=>whnf
    exact⟨_,_,⟨rfl,rfl⟩,hle,AV.leS_refl _ _ _⟩
   ·skip
    have hk:v.n6=3:=by simpa using h
    have e:endR v=(if (3:Int)=1 then (⟨#[32,78,79,78,69]⟩:ByteArray) else if (3:Int)=2 then (⟨#[32,85,78,83,65,84]⟩:ByteArray)++ID else if (3:Int)=3 then (⟨#[32,83,65,84]⟩:ByteArray) else if (3:Int)=5 then ((((⟨#[32,66,79,85,78,68,83,32]⟩:ByteArray)++v.s7)++ID)++spc)++v.s8 else if (3:Int)=6 then ((⟨#[32,65,76,76,32]⟩:ByteArray)++v.s8)++ID else (⟨#[32,63]⟩:ByteArray)):=by unfold endR;rw[hk,hID]
    rw[e] at hK hQ;rw[hk] at q;conv=>whnf
    refine⟨_,_,q,?_⟩;conv=>whnf
    refine hQ _ _ _ (by simp) ?_
    conv=>whnf
    exact⟨_,_,⟨rfl,rfl⟩,hle,AV.leS_refl _ _ _⟩
   ·skip
    have hk:v.n6=5:=by simpa using h
    have e:endR v=(if (5:Int)=1 then (⟨#[32,78,79,78,69]⟩:ByteArray) else if (5:Int)=2 then (⟨#[32,85,78,83,65,84]⟩:ByteArray)++ID else if (5:Int)=3 then (⟨#[32,83,65,84]⟩:ByteArray) else if (5:Int)=5 then ((((⟨#[32,66,79,85,78,68,83,32]⟩:ByteArray)++v.s7)++ID)++spc)++v.s8 else if (5:Int)=6 then ((⟨#[32,65,76,76,32]⟩:ByteArray)++v.s8)++ID else (⟨#[32,63]⟩:ByteArray)):=by unfold endR;rw[hk,hID]
    rw[e] at hK hQ;rw[hk] at q;conv=>whnf
    refine⟨_,_,q,?_⟩;conv=>whnf
    refine⟨_,_,q,?_⟩;conv=>whnf
    refine⟨by show 8+_≤_;omega,?_⟩
    conv=>whnf
    refine⟨by rw[ba_size_append];show 8+_+_≤_;omega,?_⟩
    conv=>whnf
    refine⟨by rw[ba_size_append,ba_size_append];show 8+_+_+1≤_;omega,?_⟩
    conv=>whnf
    refine⟨_,_,q,?_⟩;conv=>whnf
    refine⟨by rw[ba_size_append,ba_size_append,ba_size_append];show 8+_+_+1+_≤_;omega,?_⟩
    conv=>whnf
    refine hQ _ _ _ (by simp) ?_
    conv=>whnf
    exact⟨_,_,⟨rfl,rfl⟩,hle,AV.leS_refl _ _ _⟩
   ·skip
    have hk:v.n6=6:=by simpa using h
    have e:endR v=(if (6:Int)=1 then (⟨#[32,78,79,78,69]⟩:ByteArray) else if (6:Int)=2 then (⟨#[32,85,78,83,65,84]⟩:ByteArray)++ID else if (6:Int)=3 then (⟨#[32,83,65,84]⟩:ByteArray) else if (6:Int)=5 then ((((⟨#[32,66,79,85,78,68,83,32]⟩:ByteArray)++v.s7)++ID)++spc)++v.s8 else if (6:Int)=6 then ((⟨#[32,65,76,76,32]⟩:ByteArray)++v.s8)++ID else (⟨#[32,63]⟩:ByteArray)):=by unfold endR;rw[hk,hID]
    rw[e] at hK hQ;rw[hk] at q;conv=>whnf
    refine⟨_,_,q,?_⟩;conv=>whnf
    refine⟨_,_,q,?_⟩;conv=>whnf
    refine⟨by show 5+_≤_;omega,?_⟩
    conv=>whnf
    refine⟨by rw[ba_size_append];show 5+_+_≤_;omega,?_⟩
    conv=>whnf
    refine hQ _ _ _ (by simp) ?_
    conv=>whnf
    exact⟨_,_,⟨rfl,rfl⟩,hle,AV.leS_refl _ _ _⟩
   ·have e:endR v=(⟨#[32,63]⟩:ByteArray):=by
     simp only[beq_eq_false_iff_ne] at h1 h2 h3 h5 h6;unfold endR;rw[if_neg h1,if_neg h2,if_neg h3,if_neg h5,if_neg h6]
    rw[e] at hK hQ;conv=>whnf
    refine⟨_,_,q,?_⟩;conv=>whnf
    rw[h1];conv=>whnf
    rw[h2];conv=>whnf
    rw[h3];conv=>whnf
    rw[h5];conv=>whnf
    rw[h6];conv=>whnf
    refine hK _ _ ?_;clear hK hQ K;conv=>whnf
    exact⟨_,_,⟨rfl,rfl⟩,hle,AV.leS_refl _ _ _⟩
end Go.Proofs.YtogipknpafkfpaaGreatDoor.Aw

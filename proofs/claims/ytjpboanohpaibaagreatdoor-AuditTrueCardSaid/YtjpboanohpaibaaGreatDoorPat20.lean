/- The entry of a law's walk where the program reads errors' variables: what the row lists, in the abstract walk's words; a -/
import Derived.Test.YtjpboanohpaibaaGreatDoorPat1
import Derived.Test.YtjpboanohpaibaaGreatDoorPat5
import Derived.Lib.LaidU8
import Derived.Lib.AppendIntMem
import Derived.Shelf.Vars
import Derived.Handed
import Derived.ChangeAt
import Derived.Lay
import Derived.LaidHandle
import Derived.LaidSub
import Derived.Stop.Joined
set_option linter.all false
set_option maxRecDepth 100000
namespace Go.Proofs.YtjpboanohpaibaaGreatDoor.Aw
open Go Go.RowKit
section
variable {H:Type} {enc:TypeId×Value→H}
theorem returns_and_shaped{a:Assume}{C:Checked}{os:Os}{f:FuncId}{fn:Func}{s:ChangeSpec}{conds:List PathCond}{apart fresh handsOn again:Bool}{X:World→Array Value→Prop}
 (hX:∀ (w w':World) (args:Array Value),w.heap=w'.heap→X w args→X w' args)
 (own:ownKnob C.prog.godebug=none) (started:os.Started) (noInit:C.prog.inits.idxOf? f=none) (hfn:C.prog.funcs[f]? = some fn)
 (witness:∃ (w:World) (tape:Tape) (i:Input),w.os=os∧(w.forCall tape i).Shaped C.prog∧i.vars=[]∧Input.okWide C.prog (w.forCall tape i) .any w.heap.size f i∧
   ((s.pre enc C.prog fn conds apart (w.forCall tape i).memory i.args∧X (w.forCall tape i).memory i.args)∧sizedMet enc C.prog fn (OpenSpec.ofChange s) apart (w.forCall tape i).memory i.args)∧a.holds C.prog (lone (Frame.enter C.prog f i.args .normal) [] (w.forCall tape i)))
 (contract:∀ (W:World) (base:Nat) (args:Array Value) (ds gs:List (DataW H)) (before:List MemPlace),
   (∀ (j:Nat) t v,fn.params[j]? = some t→args[j]? = some v→Value.okWide C.prog W .any base t v)→
   DataW.Whole enc C.prog fn.params.toList s.vars apart W args.toList ds gs before→
   conds.all (PathCond.test C.prog ⟨fn.params.toList,ds,s.plain.varTypes C.prog,gs⟩)=true→
   (DataW.weightsEach C.prog (fn.params.toList++s.plain.varTypes C.prog) (ds++gs)).all (·≤reachBytes)=true→X W args→W.ShapedOpen C.prog→
   Calls C.prog f args W fun e W'=>∃ v,e=.returned v∧s.post enc C.prog fn apart fresh handsOn again W args v W') :
 ReturnsInHanded a C os f .any (fun w args=>(s.pre enc C.prog fn conds apart w args∧X w args)∧sizedMet enc C.prog fn (OpenSpec.ofChange s) apart w args) (s.post enc C.prog fn apart fresh handsOn again):=by
 refine returnsInHanded_of_calls own started noInit witness ?_;intro w tape i _ hsh _ hok hpre hholds;obtain⟨_,_,_,fn',hfn',_,_,_,_,hval⟩:=hok;have e:fn'=fn:=Option.some.inj (hfn'.symm.trans hfn);subst e;obtain⟨⟨⟨ds,gs,before,hw,hc⟩,hx⟩,hz⟩:=hpre;have hw':=DataW.Whole.of_heap (w':=w.forCall tape i) (by rfl) hw
 refine(contract (w.forCall tape i) w.heap.size i.args ds gs before hval hw' hc (hz.weights hw) (hX _ _ _ (by rfl) hx) hsh).mono fun e W' ⟨v,he,hp⟩=>?_
 subst he;exact ChangeSpec.post_blind hp
end
def ErrAV(e:AV):Prop:=e=.nili∨∃ te,e=.ifc te .top
noncomputable def GL (m:Int) (e1 e2:AV):Nat→Option (List AV):=fun g=>
 if g=6 then some (Lib.pow10Tab.map (AV.int .u64)) else if g=1 then some [.int .i64 m] else if g=4 then some [e1] else if g=5 then some [e2]
 else if g=0 then some [.raw (.iface 174 (.agg #[.pointer (some ⟨9,57,none⟩)]))] else none
theorem RelAt_ints{w:World}{rd:Nat→Nat→Prop}{b:Nat}{k:IntKind}:∀ (l:List Int) (off:Nat),(∀ i n,l[i]? = some n→rd b (off+i)∧w.cell? ⟨b,off+i,none⟩=some (.int k n))→RelAt w rd b off (l.map (AV.int k))
 | [],off,_=>by simp only[List.map_nil,RelAt]
 | n::l,off,h=>by
   simp only[List.map_cons,RelAt];refine⟨⟨.int k n,⟨(h 0 n rfl).1,(h 0 n rfl).2,rfl⟩,by simp only[Rel]⟩,RelAt_ints l (off+1) fun i x hx=>?_⟩
   have:=h (i+1) x (by simpa using hx)
   rwa [show off+(i+1)=off+1+i from by omega] at this
theorem cs_of_iface{H:Type}{enc:TypeId×Value→H}{P:Program}{w:World}{base:Nat}{sp:Nat→Bool}{fuel:Nat}{t:TypeId}{ms:Array (String×TypeId)}{cs:List Value}{n:String}{d:DataW H}{p:List MemPlace}
 (ht:P.underlying t=some (.interface ms)) (h:DataW.trod enc P w base sp false fuel t cs=some (.iface n d,p)):∃ u v,cs=[.iface u v]:=by
 cases fuel with
 | zero=>unfold DataW.trod at h;cases h
 | succ fuel=>
   unfold DataW.trod at h;rw[ht] at h
   split at h<;>first | (exact⟨_,_,rfl⟩) | (simp_all;done) | (rename_i hh;cases hh) | skip
theorem et_n : Tryz.prog.globalNamed "errors.errorType" = some 0 := by kernel_rfl
theorem rt_n : (Tryz.prog.cutTypes.find? (·.1 == "internal/reflectlite.rtype")).map (·.2) = some 174 := by kernel_rfl
theorem ty_n:Tryz.prog.types.size=338:=by kernel_rfl
theorem er_n:((List.range 338).filter fun t=>Tryz.prog.rowNamed t [101,114,114,111,114])=[57]:=by kernel_rfl
theorem hd_n:typeHandle Tryz.prog 57=.pointer (some ⟨9,57,none⟩):=by kernel_rfl
theorem under_err:∃ ms,Tryz.prog.underlying 57=some (.interface ms):=⟨_,Tryz.underlying57⟩
theorem var_block{P:Program}{w:World}{n:String}{g:Nat}{cs:Array Value}(hg:P.globalNamed n=some g)(hv:w.var? P n=some cs):∃ e f,w.heap[g]? = some (.cells cs e f):=by
 unfold World.var? at hv;rw[hg] at hv;simp only[Option.bind_some] at hv
 split at hv
 ·rename_i cs' e f hw;cases hv;exact⟨e,f,hw⟩
 ·cases hv
theorem glob_one{w:World}{g:Nat}{v:Value}{x:AV}{e:TypeId}{f:Nat×Nat}(hb:w.heap[g]? = some (.cells #[v] e f))(hr:∀ rd,Rel w rd x v)(h1:v.oneCell'=true) :
 St.emp g=none∧g<w.heap.size∧RelAt w (rdOf St.emp) g 0 [x]∧∃ e,w.shape? g=some (e,[x].length):=by
 refine⟨rfl,lt_of_block hb,?_,e,?_⟩
 ·simp only[RelAt];exact⟨⟨v,⟨trivial,by simp[World.cell?,hb],h1⟩,hr _⟩,trivial⟩
 ·simp only[World.shape?,hb];rfl
theorem iface_block{W:World}{laid:List (String×DataW Unit)}(hL:laidMet Tryz.prog laid W){n nm:String}{d:DataW Unit}{g:Nat}(hm:(n,DataW.iface nm d)∈laid)(hg:Tryz.prog.globalNamed n=some g)(ht:(Tryz.prog.globals[g]?).map (·.type)=some 57) :
 ∃ te pe e f,W.heap[g]? = some (.cells #[.iface te pe] e f):=by
 obtain⟨g',t,cs,fuel,p,hg',hty,hvar,hd⟩:=Lib.laidMet.reads hL hm;obtain rfl:=Option.some.inj (hg.symm.trans hg');obtain rfl:=Option.some.inj (ht.symm.trans hty);obtain⟨ms,hu⟩:=under_err;obtain⟨te,pe,hcs⟩:=cs_of_iface hu hd;have:cs=#[.iface te pe]:=by cases cs;simpa using hcs
 subst this;obtain⟨e,f,hb⟩:=var_block hg hvar;exact⟨te,pe,e,f,hb⟩
theorem handle_block{W : World}{laid : List (String × DataW Unit)}(h : handlesMet Tryz.prog laid W)(hm : ("errors.errorType", DataW.iface "internal/reflectlite.rtype" (.agg [.ptr (.lit (.string [101, 114, 114, 111, 114]))])) ∈ laid) :
 ∃ e f,W.heap[0]? = some (.cells #[.iface 174 (.agg #[.pointer (some ⟨9,57,none⟩)])] e f):=by
 obtain⟨name,u,ty,e1,e2,e3,e4,e5⟩:=h _ hm;have en:name=[101,114,114,111,114]:=(Option.some.inj e1).symm;subst en;obtain rfl:=Option.some.inj (rt_n.symm.trans e2);have hm:ty∈(List.range 338).filter fun t=>Tryz.prog.rowNamed t [101,114,114,111,114]:=List.mem_filter.2 ⟨List.mem_range.2 (by rw[← ty_n];exact e3),e4⟩
 rw[er_n] at hm;obtain rfl:=List.mem_singleton.1 hm;rw[hd_n] at e5;exact var_block et_n e5
theorem good_enter{W : World}{laid : List (String × DataW Unit)}(hsh : W.ShapedOpen Tryz.prog)(hL : laidMetH Tryz.prog laid W)(hm : ("internal/strconv.uint64pow10", Lib.tabData .u64 Lib.pow10Tab) ∈ laid)
 (hs : ∃ nm d, ("strconv.ErrSyntax", DataW.iface nm d) ∈ laid ∧ (DataW.iface nm d).handleName? = none) (hr : ∃ nm d, ("strconv.ErrRange", DataW.iface nm d) ∈ laid ∧ (DataW.iface nm d).handleName? = none)
 (he : ("errors.errorType", DataW.iface "internal/reflectlite.rtype" (.agg [.ptr (.lit (.string [101, 114, 114, 111, 114]))])) ∈ laid) :
 ∃ m e1 e2,ErrAV e1∧ErrAV e2∧Good ⟨Tt,GL m e1 e2,Et,none,false,false⟩ W St.emp:=by
 obtain⟨hL1,hH⟩:=laidMetH_iff.1 hL;obtain⟨m,hcell⟩:=cell_of_shapedOpen_int (P:=Tryz.prog) (g:=1) (t:=3) (zero:=#[.int .i64 0]) hsh (of_decide_eq_true (by kernel_rfl)) (by kernel_rfl) rfl (by kernel_rfl) (by kernel_rfl) Tryz.underlying3
 obtain⟨cs0,hh0,hs0,_⟩:=hsh.1 1 #[.int .i64 0] 3 (of_decide_eq_true (by kernel_rfl)) (by kernel_rfl)
 obtain⟨g',t,cs,fuel,p,hg,hty,hvar,hd⟩:=Lib.laidMet.reads hL1 (List.mem_filter.2 ⟨hm,rfl⟩);obtain rfl := Option.some.inj ((show Tryz.prog.globalNamed "internal/strconv.uint64pow10" = some 6 by kernel_rfl).symm.trans hg)
 obtain rfl:=Option.some.inj ((show(Tryz.prog.globals[6]?).map (·.type)=some 308 by kernel_rfl).symm.trans hty)
 have hcs:=Lib.cells_of_tab (n:=20) (e:=215) Tryz.underlying308 Tryz.underlying215 (by kernel_rfl) (by kernel_rfl) hd
 obtain⟨nm1,d1,hs1,hs2⟩:=hs;obtain⟨nm2,d2,hr1,hr2⟩:=hr;obtain⟨te1,pe1,ee1,ff1,hb1⟩:=iface_block (g:=4) hL1 (List.mem_filter.2 ⟨hs1,by rw[hs2];rfl⟩) (by kernel_rfl) (by kernel_rfl)
 obtain⟨te2,pe2,ee2,ff2,hb2⟩:=iface_block (g:=5) hL1 (List.mem_filter.2 ⟨hr1,by rw[hr2];rfl⟩) (by kernel_rfl) (by kernel_rfl)
 obtain⟨ee3,ff3,hb3⟩:=handle_block hH (List.mem_filter.2 ⟨he,rfl⟩);refine⟨m,.ifc te1 .top,.ifc te2 .top,.inr ⟨_,rfl⟩,.inr ⟨_,rfl⟩,fun b o h=>by simp[St.emp] at h,fun g xs hx=>?_⟩
 change GL m _ _ g=some xs at hx;unfold GL at hx
 split at hx
 ·rename_i hg
  subst hg
  cases hx
  obtain⟨e,f,hb⟩:=var_block hg hvar;refine⟨rfl,lt_of_block hb,RelAt_ints _ 0 fun i n hi=>⟨trivial,?_⟩,e,?_⟩
  ·rw[Nat.zero_add,World.var?_cell hg hvar i,← Array.getElem?_toList,hcs]
   simp[hi]
  ·have:cs.size=20:=by rw[← Array.length_toList,hcs];rfl
   simp only[World.shape?,hb,this];rfl
 split at hx
 ·rename_i hg1
  subst hg1
  cases hx
  refine⟨rfl,lt_of_block hh0,?_,3,?_⟩
  ·exact RelAt_ints [m] 0 fun i n hi=>⟨trivial,by
    obtain rfl:i=0:=by cases i<;>simp_all
    simp at hi;subst hi;exact hcell⟩
  ·simp only[World.shape?,hh0];have:cs0.size=1:=hs0;rw[this];rfl
 split at hx
 ·rename_i hg1
  subst hg1
  cases hx
  exact glob_one hb1 (fun rd=>by simp only[Rel];exact⟨_,rfl,trivial⟩) rfl
 split at hx
 ·rename_i hg1
  subst hg1
  cases hx
  exact glob_one hb2 (fun rd=>by simp only[Rel];exact⟨_,rfl,trivial⟩) rfl
 split at hx
 ·rename_i hg1
  subst hg1
  cases hx
  exact glob_one hb3 (fun rd=>by simp only[Rel]) rfl
 ·cases hx
noncomputable def witBase (os:Os):World:=
 let w0:=World.holding Tryz.prog os ⟨#[],#[],[]⟩
 { w0 with heap:=w0.heap.modify 0 fun
  | .cells _ t frozen=>.cells #[.iface 174 (.agg #[.pointer (some ⟨9,57,none⟩)])] t frozen
  | o=>o }
noncomputable def wit (os:Os) (laid:List (String×DataW Unit)):World:=(witBase os).layVars Tryz.prog (laid.filter fun x=>x.2.handleName?.isNone)
theorem wit_os(os:Os)(laid:List (String×DataW Unit)):(wit os laid).os=os:=World.layVars_os _ _ _
theorem wit_met{os:Os}{laid:List (String×DataW Unit)}(args:Array Value)
 (hf:(witBase os).layFits Tryz.prog (laid.filter fun x=>x.2.handleName?.isNone) []=true)
 (hi:(witBase os).layIfaces Tryz.prog (laid.filter fun x=>x.2.handleName?.isNone) (wit os laid)=true)
 (hh:(laid.filter fun x=>x.2.handleName?.isSome).all (handleAtB Tryz.prog (wit os laid))=true) :
 laidMetH Tryz.prog laid ((wit os laid).forCall (fun _ _=>0) ⟨#[],args,[]⟩).memory:=by
 have e0:((wit os laid).forCall (fun _ _=>0) ⟨#[],args,[]⟩).memory.heap=(wit os laid).heap:=by simp[World.memory,World.forCall,Input.heap]
 refine laidMetH.of_heap (w:=wit os laid) e0.symm (laidMetH_of_parts ?_ hh);unfold wit at hi ⊢;generalize (laid.filter fun x=>x.2.handleName?.isNone)=l at *
 have e1:(l.filter fun x=>(l.map (·.1)).contains x.1)=l:=List.filter_eq_self.2 fun x hx=>List.contains_iff_mem.2 (List.mem_map.2 ⟨x,hx,rfl⟩)
 have e2:(l.filter fun x=>!(l.map (·.1)).contains x.1)=[]:=List.filter_eq_nil_iff.2 fun x hx=>by rw[List.contains_iff_mem.2 (List.mem_map.2 ⟨x,hx,rfl⟩)];simp
 exact laidMet_layVars (w0:=witBase os) (l.map (·.1)) [] (by rw[e1]) (by rw[e1];exact hf) (by rw[e1];exact hi) (by rw[e2];exact LaidIn.none)
end Go.Proofs.YtjpboanohpaibaaGreatDoor.Aw

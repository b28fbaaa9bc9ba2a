/- Contracts of the library's string functions in the abstract walk's words. Deferred calls: a function entered as a deferr -/
import Derived.Test.YtjpboanohpaibaaGreatDoorPat1
import Derived.Test.YtjpboanohpaibaaGreatDoorPat5
import Derived.Test.YtjpboanohpaibaaGreatDoorPat6
import Derived.Lib.AppendIntMem
import Derived.Lib.SplitLaws
import Derived.Laws.Externs
import Derived.Laws.RangeAny
import Derived.Laws.RangeString
set_option linter.all false
set_option maxRecDepth 100000
namespace Go.Proofs.YtjpboanohpaibaaGreatDoor.Aw
open Go Go.RowKit
noncomputable abbrev P:Program:=Tryz.prog
noncomputable abbrev C (G:Nat→Option (List AV)):Cx:=⟨Tt,G,Et,none,false,false⟩
theorem hT(G:Nat→Option (List AV)):TyOk P (C G):=⟨Tt_ok,Et_ok⟩
theorem hm:P.follows .mixedOrders=true:=by kernel_rfl
def rowsS(l:List ByteArray):List (List AV):=l.map fun s=>[.str s]
variable {G:Nat→Option (List AV)}
theorem glob_cell{w:World}{S:St}(hg:Good (C G) w S){g:Nat}{k:IntKind}{m:Int}(h:G g=some [.int k m]):w.cell? ⟨g,0,none⟩=some (.int k m):=by
 obtain⟨_,_,h3,_⟩:=hg.2 g _ h;simp only[RelAt] at h3;obtain⟨⟨v,⟨_,h4,_⟩,h5⟩,_⟩:=h3;simp only[Rel] at h5;subst h5;exact h4
theorem RelL_ints{w:World}{rd}{k:IntKind}:∀ {l:List Int} {vs:List Value},RelL w rd (l.map (AV.int k)) vs→vs=l.map (Value.int k)
 | [],vs,h=>by simpa [RelL] using h
 | n::l,vs,h=>by
   simp only[List.map_cons,RelL,Rel] at h;obtain⟨u,us,rfl,rfl,h2⟩:=h;rw[RelL_ints h2];rfl
theorem glob_tab{w:World}{S:St}(hg:Good (C G) w S){g:Nat}{k:IntKind}{l:List Int}(h:G g=some (l.map (AV.int k))){name:String}(hn:P.globalNamed name=some g):Lib.TabIs P w name k l:=by
 obtain⟨_,_,h3,e,h4⟩:=hg.2 g _ h;obtain⟨vs,k1,k2,k3,k4⟩:=RelAt.cells h3;have hvs:=RelL_ints k1;subst hvs;unfold Lib.TabIs World.var?;rw[hn];simp only[Option.bind_some];unfold World.shape? at h4
 split at h4
 ·rename_i cs e' f hb
  simp only[Option.some.injEq,Prod.mk.injEq,List.length_map] at h4;rw[hb];simp only[Option.some.injEq]
  apply Array.ext'
  apply List.ext_getElem?
  intro i
  by_cases hi:i<l.length
  ·have hc:=k2 i (.int k l[i]) (by simp[hi])
   rw[cell_of_row w g (0+i) cs e' f hb] at hc;simp only[Nat.zero_add] at hc
   simp[hc,hi]
  ·rw[List.getElem?_eq_none (by simp;omega),List.getElem?_eq_none (by simp;omega)]
 ·cases h4
def G10(G:Nat→Option (List AV)):Prop:=G 6=some (Lib.pow10Tab.map (AV.int .u64))
def itoaS(n:Int):ByteArray:=⟨(Lib.itoa n).toArray⟩
theorem itoa_ok(hG:G10 G)(n:Int)(h0:-9223372036854775808≤n)(h1:n≤9223372036854775807)(S:St) :
 Triple P (C G) 206 [.int .i64 n] S fun o S'=>o=.ret (.str (itoaS n))∧S'=S:=by
 refine Triple.of_calls (x:=.str (itoaS n)) Tryz.func206 rfl (by decide +kernel) (fun w vs hg hr=>?_) ⟨rfl,rfl⟩
 obtain⟨v,hv,r1⟩:=RelL.one hr;simp only[Rel] at r1;subst r1;have hvs:vs=#[.int .i64 n]:=arr_of_list hv;rw[hvs];refine(Tryz.strconv_Itoa n h0 h1 w (glob_tab hg hG (by kernel_rfl))).mono fun e w' he=>?_
 obtain⟨rfl,k,os,rfl⟩:=he;exact⟨_,rfl,by simp only[Rel];rfl,Lib.below_grow _ w (Nat.le_refl _) k os⟩
def splitS(s sep:ByteArray):List ByteArray:=Lib.splitB sep 0 (Lib.countB s sep) s
theorem splitS_len(s sep:ByteArray)(h1:1≤sep.size):(splitS s sep).length=Lib.countB s sep+1:=Lib.splitB_all sep h1 0 _ s rfl
theorem splitS_le(s sep:ByteArray)(h1:1≤sep.size):(splitS s sep).length≤s.size+1:=by
 have:=Lib.countB_le sep h1 s.size s (Nat.le_refl _)
 rw[splitS_len s sep h1];omega
theorem RelL_strs(w:World)(rd):∀ l:List ByteArray,RelL w rd (rowsS l).flatten (l.map Value.string)
 | []=>by simp[rowsS,RelL]
 | s::l=>by
   have:=RelL_strs w rd l
   simp only[rowsS,List.map_cons,List.flatten_cons,List.singleton_append] at this ⊢;simp only[RelL,Rel];exact⟨_,_,rfl,rfl,this⟩
theorem rowsS_len(l:List ByteArray):(rowsS l).length=l.length:=by simp[rowsS]
theorem rowsS_one(l:List ByteArray):∀ e∈rowsS l,e.length=1:=by
 intro e he;simp only[rowsS,List.mem_map] at he;obtain⟨s,_,rfl⟩:=he;rfl
theorem Below.alloc'(w:World)(o:Obj):Below w.heap.size w (w.alloc o):=⟨rfl,rfl,rfl,by simp,fun b hb=>heap_alloc_lt w o hb⟩
theorem split_ok{m:Int}(hG:G 1=some [.int .i64 m])(s sep:ByteArray)(hs:s.size<4294967281)(h1:1≤sep.size)(S:St) :
 Triple P (C G) 45 [.str s,.str sep] S fun o S'=>o=.ret (.sl .full 1 (rowsS (splitS s sep)))∧S'=S:=by
 refine Triple.of_calls (x:=.sl .full 1 (rowsS (splitS s sep))) Tryz.func45 rfl (by decide +kernel) (fun w vs hg hr=>?_) ⟨rfl,rfl⟩
 obtain⟨u,v,hv,r1,r2⟩:=RelL.two hr;simp only[Rel] at r1 r2;subst r1 r2;have hvs:vs=#[.string s,.string sep]:=by
  have:=congrArg List.toArray hv
  simpa using this
 rw[hvs];refine(Tryz.strings_Split s sep m w hs (glob_cell hg hG) h1).mono fun e w' he=>?_
 obtain⟨rfl,rfl⟩:=he;refine⟨_,rfl,?_,Below.alloc' w _⟩;have hb:(w.alloc (.cells ((splitS s sep).map Value.string).toArray 9)).heap[w.heap.size]? = some (.cells ((splitS s sep).map Value.string).toArray 9 (0,0)):=heap_alloc_new w _;have hl:=splitS_le s sep h1;simp only[Rel];refine .inr ⟨w.heap.size,0,(splitS s sep).length,by rw[rowsS_len,splitS_len s sep h1],by rw[rowsS_len];exact Nat.le_refl _,by simp only[maxLen];omega,by rw[rowsS_len];rfl,?_⟩
 refine RelRows.of_cells (rowsS_one _) (RelL_strs _ _ _) (fun i v hv=>?_) (fun u hu=>?_) (fun i hi=>?_)
 ·have:=cell_of_row _ _ i _ 9 (0,0) hb
  rw[Nat.zero_add];exact this.trans (by simpa using hv)
 ·obtain⟨x,_,rfl⟩:=List.mem_map.1 hu;rfl
 ·simp only[rdOf,hg.1.fresh]
theorem clone_nn(rows:List ByteArray)(hl:rows.length≤1000000000)(S:St) :
 Triple P (C G) 46 [.sl .nn 1 (rowsS rows)] S fun o S'=>∃ b,S b=none∧o=.ret (.sl (.own b) 1 (rowsS rows))∧S'=S.upd b (.tip 9 1 rows.length):=by
 refine triple_of_awp (hT G) hm Tryz.func46 rfl (by decide +kernel) rfl (by decide +kernel) (by show 1≤_;decide +kernel) rfl ?_
 conv=>whnf
 intro b0 hb0;conv=>whnf
 refine⟨⟨St.upd_same _ _ _,by show _*16≤_;simp[rowsS];omega⟩,?_⟩
 conv=>whnf
 intro b hb;conv=>whnf
 rw[St.del_upd hb0] at hb ⊢;exact⟨_,_,⟨b,hb,rfl,rfl⟩,by simp[rowsS];exact St.le_refl _,AV.leS_refl _ _ _⟩
def sepNL:ByteArray:=⟨#[10]⟩
def linesOf(s:ByteArray):List ByteArray:=
 let l:=splitS s sepNL
 if l[l.length-1]? = some ⟨#[]⟩ then l.take (l.length-1) else l
set_option maxHeartbeats 1000000 in
theorem lines_own{m:Int}(hG:G 1=some [.int .i64 m])(s:ByteArray)(hs:s.size<100000001)(S:St) :
 Triple P (C G) 22 [.str s] S fun o S'=>∃ b,S b=none∧o=.ret (.sl (.own b) 1 (rowsS (linesOf s)))∧S'=S.upd b (.tip 9 1 (linesOf s).length):=by
 refine triple_of_awp (hT G) hm Tryz.func22 rfl (by decide +kernel) rfl (by decide +kernel) (by show 1≤_;decide +kernel) rfl ?_
 conv=>whnf
 refine(split_ok hG s sepNL (by omega) (by decide) S).mono ?_
 rintro o S' ⟨rfl,rfl⟩;conv=>whnf
 intro hlen;have hl1:=splitS_len s sepNL (by decide)
 have hl2:=splitS_le s sepNL (by decide)
 have w1:IntKind.i64.wrap (((rowsS (splitS s sepNL)).length:Int)-1)=(((splitS s sepNL).length-1:Nat):Int):=by
  rw[rowsS_len,wrap_i64 (by omega) (by omega)];omega
 obtain⟨x,hx⟩:∃ x,(splitS s sepNL)[(splitS s sepNL).length-1]? = some x:=⟨_,List.getElem?_eq_getElem (by omega)⟩
 conv=>whnf
 rw[w1];refine⟨[.str x],⟨by omega,by simp[rowsS,hx]⟩,?_⟩
 conv=>whnf
 refine split_of (fun h=>?_) (fun h=>?_)
 ·have h:x=(⟨#[]⟩:ByteArray):=by simpa using h
  subst h;have hlo:linesOf s=(splitS s sepNL).take ((splitS s sepNL).length-1):=by unfold linesOf;rw[if_pos hx]
  conv=>whnf
  intro hlen';conv=>whnf
  rw[w1];refine⟨⟨by omega,by omega,by rw[rowsS_len];omega⟩,?_⟩
  conv=>whnf
  have e1:List.drop (0:Int).toNat (List.take (((splitS s sepNL).length-1:Nat):Int).toNat (rowsS (splitS s sepNL)))=rowsS (linesOf s):=by
   rw[hlo];simp[rowsS,List.map_take]
  refine((clone_nn (linesOf s) (by rw[hlo];simp;omega) S').args (by exact⟨⟨rfl,rfl,e1⟩,trivial⟩)).mono ?_
  rintro o S'' ⟨b,hb,rfl,rfl⟩;conv=>whnf
  exact⟨_,_,⟨b,hb,rfl,rfl⟩,St.le_refl _,AV.leS_refl _ _ _⟩
 ·have h:¬ x=(⟨#[]⟩:ByteArray):=by simpa using h
  have hlo:linesOf s=splitS s sepNL:=by
   unfold linesOf;rw[if_neg (by rw[hx];simpa using h)]
  conv=>whnf
  refine((clone_nn (linesOf s) (by rw[hlo];omega) S').args (by exact⟨⟨rfl,rfl,by rw[hlo]⟩,trivial⟩)).mono ?_
  rintro o S'' ⟨b,hb,rfl,rfl⟩;conv=>whnf
  exact⟨_,_,⟨b,hb,rfl,rfl⟩,St.le_refl _,AV.leS_refl _ _ _⟩
theorem lines_ok{m:Int}(hG:G 1=some [.int .i64 m])(s:ByteArray)(hs:s.size<100000001)(S:St) :
 Triple P (C G) 22 [.str s] S fun o S'=>o=.ret (.sl .any 1 (rowsS (linesOf s)))∧S'=S:=
 (lines_own hG s hs S).lessen fun o S' ⟨b,hb,ho,hS⟩=>⟨_,_,⟨rfl,rfl⟩,by rw[hS];exact St.le_upd' (St.le_refl _) hb _,by rw[ho];exact⟨rfl,rfl⟩⟩
section
variable {P:Program} {C:Cx}
theorem wpListIn_append{F:Fence}{m:Nat}{ops:Array Oper}{Q:Exit→Act→World→Prop}(l₂:List Oper):∀ (l₁:List Oper) (a:Act) (w:World),
 wpListIn F m P ops (fun e a w=>match e with | .normal=>wpListIn F m P ops Q l₂ a w | e=>Q e a w) l₁ a w→wpListIn F m P ops Q (l₁++l₂) a w
 | [],a,w,h=>h
 | o::r,a,w,h=>by
   simp only[List.cons_append];unfold wpListIn at h ⊢
   split
   ·rename_i hw
    rw[if_pos hw] at h;exact Oper.wpIn_mono (fun a w=>wpListIn_append l₂ r a w) h
   ·rename_i hw
    rw[if_neg hw] at h;exact⟨h.1,wpListIn_append l₂ r _ _ h.2⟩
theorem env_enter{w:World}{S:St}{n:Nat}{args:List AV}{vs:Array Value}(hargs:args.length≤n)(hr:RelL w (rdOf S) args vs.toList):RelEnv w S (vs++Array.replicate (n-vs.size) undef) (argEnv 0 args) n:=by
 have hvs:vs.size=args.length:=by simpa using (RelL.length hr).symm
 refine⟨by simp[hvs];omega,fun t=>?_⟩
 rcases argEnv_sound 0 args vs.toList hr t with h | h
 ·by_cases ht:t<vs.size
  ·have:(vs++Array.replicate (n-vs.size) undef).getD t undef=(vs.toList[t-0]?).getD undef:=by
    simp[Array.getD_eq_getD_getElem?,Array.getElem?_append_left ht]
   rw[this];exact h
  ·have htop:look t (argEnv 0 args)=.top:=by
    have:∀ (ys:List AV) (j:Nat),j+ys.length≤t→look t (argEnv j ys)=.top:=by
     intro ys
     induction ys with
     | nil=>intro j _;rfl
     | cons y ys ih=>intro j hj;simp only[argEnv,look_cons,if_neg (show ¬ j=t by simp at hj;omega)];exact ih (j+1) (by simp at hj;omega)
    exact this args 0 (by omega)
   rw[htop];simp only[Rel]
 ·rw[h];simp only[Rel]
structure TripleD (P:Program) (C:Cx) (f:FuncId) (args:List AV) (S:St) (Q:Out→St→Prop):Prop where
 mk ::
 enter:∀ (vs:Array Value) (w:World),(callFunc f vs).run P w=.ok (.enter f vs) w
 out:∀ (w:World) (vs:Array Value) (u:FrameMode),YOk P C w S→Good C w S→RelL w (rdOf S) args vs.toList→
  CallsDIn Fence.wide 0 P f vs u w fun e u' w'=>u'=u∧∃ o S',OutRel w' S' o e∧Good C w' S'∧Adv w S w' S'∧Q o S'
theorem TripleD.mono{f:FuncId}{args:List AV}{S:St}{Q Q':Out→St→Prop}(h:TripleD P C f args S Q)(hq:∀ o S',Q o S'→Q' o S'):TripleD P C f args S Q':=
 ⟨h.enter,fun w vs u hY hg hr=>(h.out w vs u hY hg hr).mono fun e u' w' ⟨hu,o,S',h1,h2,h3,h4⟩=>⟨hu,o,S',h1,h2,h3,hq _ _ h4⟩⟩
theorem bodyPost_of_post{fn:Func}{R:Ending→World→Prop}(hT:TyOk P C){n:Nat}{w:World}{S:St}{rs:List ResultVar}(hrs:fn.results.toList=rs){Q:Out→St→Prop}
 (hR:∀ o S' e w',OutRel w' S' o e→Good C w' S'→Adv w S w' S'→Q o S'→R e w') {e:Exit} {a':Act} {w':World} (h:Post true C n [] w S (aPost C rs Q) e a' w'):bodyPost P fn R e a' w':=by
 obtain⟨ae,env',S',h1,h2,⟨ms,hms,_,hm0,_⟩,h4,h5,h6⟩:=h;have hd:a'.defers=[]:=by rw[hms,hm0 rfl];rfl
 have fin:aOut C rs env' S' (fun x=>∃ y S'',Q (.ret y) S''∧St.le S'' S'∧AV.leS S' S'' x y)→a'.defers=[]∧∃ v,(results fn a'.tmps).run P w'=.ok v w'∧R (.returned v) w':=by
  intro hx;obtain⟨x,v,⟨y,S'',hq,hle,hxy⟩,k1,k2⟩:=results_sound (P:=P) hT h4 h2 (by rw[hrs];exact hx)
  exact⟨hd,v,k1,hR (.ret y) S'' _ _ (AV.leS_sound h4.1 hle x y v hxy k2) (h4.shrink hle) (h5.trans (Adv.shrink hle)) hq⟩
 cases ae with
 | normal=>
   cases e<;>simp only[ExRel] at h1
   exact fin h6
 | exit i=>exact h6.elim
 | ret=>
   cases e<;>simp only[ExRel] at h1
   exact fin h6
 | panic x=>
   cases e<;>simp only[ExRel] at h1
   obtain⟨v,rfl,hv⟩:=h1;simp only[aPost,force_eq] at h6;obtain⟨y,S'',hq,hle,hxy⟩:=h6;exact⟨hd,hR (.pan y) S'' _ _ ⟨v,rfl,AV.leS_sound h4.1 hle x y v hxy hv⟩ (h4.shrink hle) (h5.trans (Adv.shrink hle)) hq⟩
theorem tripleD_of_awp(hT : TyOk P C)(hm : P.follows .mixedOrders = true){f : FuncId}{fn : Func}{c : Code}(hf : P.funcs[f]? = some fn)(hb : fn.body = some c)(hname : (fn.name == "runtime.NumGoroutine") = false)
 {n:Nat} (hn:fn.ntmps=n) (hd:dstOk n c=true) (hnr:noRange c=true) {args:List AV} (hargs:args.length≤n) {rs:List ResultVar} (hrs:fn.results.toList=rs) {S:St} {Q:Out→St→Prop}
 (h:awp P C c (argEnv 0 args) S (aPost C rs Q)):TripleD P C f args S Q:=by
 refine⟨fun vs w=>?_,fun w vs u hY hg hr=>?_⟩
 · have hno : ¬ fn.name = "runtime.NumGoroutine" := by simpa using hname
   simp[callFunc,hf,hno,hb]
 ·have he:=env_enter hargs hr
  rw[← hn] at he;refine callsDIn_of_wp (F:=Fence.wide) (n:=0) hf hb trivial (wpIn_mono (awp_sound hm c (by rw[hn];exact hd) (nr:=true) (fun _=>hnr) hT (ro:=none) (fun _=>rfl) hY hg (a:=⟨_,[]⟩) he h) ?_)
  exact fun e a' w' hp=>bodyPost_of_post hT hrs (fun o S' e w' h1 h2 h3 h4=>⟨o,S',h1,h2,h3,h4⟩) hp
theorem triple_of_awp_defer(hT : TyOk P C)(hm : P.follows .mixedOrders = true){f : FuncId}{fn : Func}{id : Nat}{ops : Array Oper}{rest : Code}(hf : P.funcs[f]? = some fn)(hb : fn.body = some (.seq (.region id ops false) rest))(hname : (fn.name == "runtime.NumGoroutine") = false)
 {n:Nat} (hn:fn.ntmps=n) (hd:dstOk n (.seq (.region id ops false) rest)=true) (hnr:noRange rest=true) {args:List AV} (hargs:args.length≤n) {rs:List ResultVar} (hrs:fn.results.toList=rs) {S:St} {Q:Out→St→Prop}
 {pre:List Oper} {o:Oper} {g:FuncId} {cargs:Array Operand} {ty:Array TypeId} (hops:ops.toList=pre++[o]) (ho:o.op=.defer { callee:=.value (.func g),args:=cargs,argTypes:=ty }) (hguard:o.guard=none) (hdst:o.dst=none)
 (h:aOps P C ops.toList pre (argEnv 0 args) S (fun env S₁=>∃ zs,cargs.toList.map (ev C env)=zs∧awp P C rest env S₁ fun e env' S'=>match e with
   | .normal | .ret=>TripleD P C g zs S' fun o S''=>(∃ x,o=.ret x)∧aPost C rs Q .ret env' S''
   | _=>False) (fun _ _=>False)):Triple P C f args S Q:=by
 refine TripleE.triple ⟨fun vs w=>?_,fun w vs hY hg hr=>?_⟩
 · have hno : ¬ fn.name = "runtime.NumGoroutine" := by simpa using hname
   simp[callFunc,hf,hno,hb]
 ·have he:=env_enter hargs hr
  rw[← hn] at he;simp only[dstOk,Bool.and_eq_true] at hd;refine callsIn_wide.1 (callsIn_of_wp_marks (F:=Fence.wide) (n:=0) hf hb trivial (wpIn_seq (wpIn_region_list ?_)));have happ:∀ (Q1:Exit→Act→World→Prop) (a:Act) (w:World),wpListIn Fence.wide 0 P ops Q1 ops.toList a w↔wpListIn Fence.wide 0 P ops Q1 (pre++[o]) a w:=fun _ _ _=>by rw[hops]
  rw[happ];refine wpListIn_append [o] pre _ _ ?_;have hdp:∀ o∈pre,∀ d,o.dst=some d→d<n:=fun o' ho' d hod=>by
   have:=List.all_eq_true.1 hd.1 o' (by rw[hops];simp[ho'])
   simp only[hod] at this;exact Nat.le_of_ble_eq_true this
  rw[← hn] at hdp;refine aOps_sound (ro:=none) hT ops pre hdp hY hg he h (fun env' a' w' S' hK k2 k3 k4 k5=>?_) (fun _ _ _ _ _ hq=>hq.elim)
  obtain⟨zs,hzs,haw⟩:=hK;dsimp only;unfold wpListIn;rw[if_pos (by simp[Region.wanted,hguard])]
  refine⟨fun _ _=>trivial,?_⟩
  have hop:(o.semAt Fence.wide.round a'.eval).run P w'=.ok (.defer { target:=.fn (.func g) #[],args:=cargs.map a'.eval }) w':=by
   show(Oper.semAt none a'.eval o).run P w'=_
   rw[Oper.semAt_none]
   simp[execOp,ho,resolve,Act.eval,Deferred.ofValue,go_sem]
  rw[hop,Oper.uponIn_defer];have hzr:RelL w' (rdOf S') zs (cargs.map a'.eval).toList:=by
   rw[← hzs];simp only[Array.toList_map];exact evL_sound k4 k2 cargs.toList
  show rest.wpIn Fence.wide 0 P _ _ w'
  have hnn:(rest.wpIn (Fr none) 0 P (Post true C fn.ntmps [{ target:=.fn (.func g) #[],args:=cargs.map a'.eval }] w' S' _) { a' with defers:=[{ target:=.fn (.func g) #[],args:=cargs.map a'.eval }] } w'):=
   awp_sound hm rest (by rw[hn];exact hd.2) (nr:=true) (fun _=>hnr) hT (ro:=none) (fun _=>rfl) (a:={ a' with defers:=[{ target:=.fn (.func g) #[],args:=cargs.map a'.eval }] }) (hY.mono k5) k4 k2 haw
  have ha:({ a' with defers:={ target:=.fn (.func g) #[],args:=cargs.map a'.eval }::a'.defers }:Act).put o.dst undef={ a' with defers:=[{ target:=.fn (.func g) #[],args:=cargs.map a'.eval }] }:=by
   rw[hdst,k3];rfl
  rw[ha];refine wpIn_mono hnn ?_;rintro e a2 w2 ⟨ae,env2,S2,h1,h2,⟨ms,hms,_,hm0,_⟩,h4,h5,h6⟩;have hdef:a2.defers=[{ target:=.fn (.func g) #[],args:=cargs.map a'.eval }]:=by rw[hms,hm0 rfl];rfl
  have fin:TripleD P C g zs S2 (fun o S''=>(∃ x,o=.ret x)∧aPost C rs Q .ret env2 S'')→LeavesInM Fence.wide 0 P fn a2.tmps (fun e w'=>∃ o S',OutRel w' S' o e∧Good C w' S'∧Adv w S w' S'∧Q o S') a2.defers .returning w2:=fun ht=>by
   rw[hdef];refine⟨by simp,.inr ⟨fun hh=>by simp[Fence.wide] at hh,.func g,#[],g,cargs.map a'.eval,rfl,?_,fun _ _=>trivial,?_⟩⟩
   ·simpa [invoke] using ht.enter (cargs.map a'.eval) w2
   ·refine CallsDIn.mono (ht.out w2 (cargs.map a'.eval) .returning (hY.mono (k5.trans h5)) h4 (RelL.mono h5 _ _ hzr)) ?_;rintro e3 u3 w3 ⟨rfl,o3,S3,p1,p2,p3,⟨x,rfl⟩,p5⟩
    cases e3 with
    | returned v=>
      show LeavesIn Fence.wide 0 P fn a2.tmps _ [] (settle .returning) w3
      simp only[aPost] at p5;obtain⟨x',v',⟨y,S'',hq,hle,hxy⟩,q1,q2⟩:=results_sound (P:=P) hT p2 (h2.mono p3) (by rw[hrs];exact p5)
      exact⟨v',q1,.ret y,S'',AV.leS_sound p2.1 hle x' y v' hxy q2,p2.shrink hle,((k5.trans h5).trans p3).trans (Adv.shrink hle),hq⟩
    | panicked ch=>exact p1.elim
    | outgrown=>exact p1.elim
  cases ae with
  | normal=>cases e<;>simp only[ExRel] at h1;exact fin h6
  | ret=>cases e<;>simp only[ExRel] at h1;exact fin h6
  | exit i=>exact h6.elim
  | panic x=>exact h6.elim
theorem triple_of_defer(hT : TyOk P C)(hm : P.follows .mixedOrders = true){f : FuncId}{fn : Func}{id : Nat}{ops : Array Oper}{rest : Code}(hf : P.funcs[f]? = some fn)(hb : fn.body = some (.seq (.region id ops false) rest))(hname : (fn.name == "runtime.NumGoroutine") = false)
 {n:Nat} (hn:fn.ntmps=n) (hd:dstOk n (.seq (.region id ops false) rest)=true) (hnr:noRange rest=true) {args:List AV} (hargs:args.length≤n) {rs:List ResultVar} (hrs:fn.results.toList=rs) {S:St} {Q:Out→St→Prop}
 (k:Nat) {o:Oper} {g:FuncId} {cargs:Array Operand} {ty:Array TypeId} (hk:ops.toList.length=k+1) (hko:ops.toList[k]? = some o) (ho:o.op=.defer { callee:=.value (.func g),args:=cargs,argTypes:=ty }) (hguard:o.guard=none) (hdst:o.dst=none)
 (h:aOps P C ops.toList (ops.toList.take k) (argEnv 0 args) S (fun env S₁=>∃ zs,cargs.toList.map (ev C env)=zs∧awp P C rest env S₁ fun e env' S'=>match e with
   | .normal | .ret=>TripleD P C g zs S' fun o S''=>(∃ x,o=.ret x)∧aPost C rs Q .ret env' S''
   | _=>False) (fun _ _=>False)):Triple P C f args S Q:=by
 refine triple_of_awp_defer hT hm hf hb hname hn hd hnr hargs hrs (pre:=ops.toList.take k) (o:=o) ?_ ho hguard hdst h;have h1:ops.toList.drop k=[o]:=by
  have hlt:k<ops.toList.length:=by omega
  rw[List.drop_eq_getElem_cons hlt,List.drop_eq_nil_of_le (by omega)]
  rw[List.getElem?_eq_getElem hlt] at hko;rw[Option.some.inj hko]
 rw[← h1,List.take_append_drop]
end
theorem AccOk.other{S S₁:St}{e:TypeId}{k b n:Nat}(h:AccOk S S₁ e k b n){b0:Nat}(hb:S₁ b0=none)(o:Own):AccOk S (S₁.upd b0 o) e k b n:=
 ⟨St.le_upd' h.le hb o,fun hn=>by rw[St.upd_ne _ _ _ _ (fun e=>by rw[← e,h.tip hn] at hb;cases hb)];exact h.tip hn,h.new⟩
def limbsF:Nat→Nat→List Nat
 | 0,_=>[]
 | f+1,n=>if n=0 then [] else n % 1000000000::limbsF f (n / 1000000000)
def limbs(n:Nat):List Nat:=limbsF n n
def valL:List Nat→Nat
 | []=>0
 | d::l=>d+1000000000*valL l
theorem limbsF_zero(f:Nat):limbsF f 0=[]:=by cases f<;>rfl
theorem limbsF_more:∀ (f g n:Nat),n≤f→n≤g→limbsF f n=limbsF g n
 | 0,g,n,h,_=>by
    obtain rfl:n=0:=by omega
    rw[limbsF_zero,limbsF_zero]
 | f+1,0,n,_,h=>by
    obtain rfl:n=0:=by omega
    rw[limbsF_zero,limbsF_zero]
 | f+1,g+1,n,h,k=>by
   unfold limbsF
   by_cases hn:n=0
   ·rw[if_pos hn,if_pos hn]
   ·rw[if_neg hn,if_neg hn,limbsF_more f g (n / 1000000000) (by omega) (by omega)]
theorem limbs_zero:limbs 0=[]:=rfl
theorem limbs_pos{n:Nat}(h:0<n):limbs n=n % 1000000000::limbs (n / 1000000000):=by
 unfold limbs;obtain⟨m,rfl⟩:∃ m,n=m+1:=⟨n-1,by omega⟩
 conv=>lhs;unfold limbsF
 rw[if_neg (by omega),limbsF_more m ((m+1) / 1000000000) _ (by omega) (by omega)]
theorem valL_limbs(n:Nat):valL (limbs n)=n:=by
 induction n using Nat.strongRecOn with
 | ind n ih=>
   by_cases h:n=0
   ·subst h;rfl
   ·rw[limbs_pos (by omega)]
    simp only[valL];rw[ih _ (by omega)]
    omega
theorem limbs_lt(n:Nat):∀ d∈limbs n,d<1000000000:=by
 induction n using Nat.strongRecOn with
 | ind n ih=>
   by_cases h:n=0
   ·subst h;intro d hd;simp[limbs_zero] at hd
   ·rw[limbs_pos (by omega)]
    intro d hd
    rcases List.mem_cons.1 hd with rfl | hd
    ·omega
    ·exact ih _ (by omega) d hd
theorem limbs_ne{n:Nat}(h:0<n):limbs n≠[]:=by rw[limbs_pos h];simp
theorem limbs_len:∀ (k n:Nat),n<1000000000 ^ k→(limbs n).length≤k
 | 0,n,h=>by
    obtain rfl:n=0:=by simpa using h
    simp[limbs_zero]
 | k+1,n,h=>by
   by_cases hn:n=0
   ·subst hn;simp[limbs_zero]
   ·rw[limbs_pos (by omega)]
    have:=limbs_len k (n / 1000000000) (by rw[Nat.div_lt_iff_lt_mul (by omega)];rw[Nat.pow_succ] at h;exact h)
    simp;omega
def rowsU(l:List Nat):List (List AV):=l.map fun(d:Nat)=>[AV.int .u32 (d:Int)]
@[simp] theorem rowsU_len (l:List Nat):(rowsU l).length=l.length:=by simp[rowsU]
theorem rowsU_ne{l:List Nat}(h:l≠[]):rowsU l≠[]:=by cases l<;>simp_all [rowsU]
theorem rowsU_snoc(l:List Nat)(d:Nat):rowsU l++[[AV.int .u32 (d:Int)]]=rowsU (l++[d]):=by simp[rowsU]
def near(z:Int):Prop:=-4611686018427387904<z∧z<4611686018427387904
instance (z:Int):Decidable (near z):=inferInstanceAs (Decidable (_∧_))
def nearAV(z:Int):AV:=.ag [.int .i64 z,.bool false,.nils]
def farAV(neg:Bool)(l:List Nat):AV:=.ag [.int .i64 0,.bool neg,.sl .any 1 (rowsU l)]
def bigAV(z:Int):AV:=if near z then nearAV z else farAV (decide (z<0)) (limbs z.natAbs)
theorem bigAV_near{z:Int}(h:near z):bigAV z=nearAV z:=if_pos h
theorem bigAV_far{z:Int}(h:¬ near z):bigAV z=farAV (decide (z<0)) (limbs z.natAbs):=if_neg h
theorem far_pos{z:Int}(h:¬ near z):4611686018427387904≤z.natAbs:=by unfold near at h;omega
def bSign(z:Int):Int:=if z<0 then -1 else if z=0 then 0 else 1
theorem Sign_near(n:Int)(S:St):Triple P (C G) 193 [nearAV n] S fun o S'=>o=.ret (.int .i64 (bSign n))∧S'=S:=by
 refine triple_of_awp (hT G) hm Tryz.func193 rfl (by decide +kernel) rfl (by decide +kernel) (by show 1≤_;decide +kernel) rfl ?_
 conv=>whnf
 intro b hb;conv=>whnf
 refine⟨_,_,St.upd_same _ _ _,?_⟩;conv=>whnf
 refine⟨_,_,St.upd_same _ _ _,?_⟩;conv=>whnf
 refine⟨_,_,St.upd_same _ _ _,?_⟩;conv=>whnf
 refine split_of (fun h=>?_) (fun h=>?_)
 ·have h:n<0:=of_decide_eq_true h
  conv=>whnf
  exact⟨_,_,⟨rfl,rfl⟩,St.le_upd' (St.le_refl _) hb _,by rw[bSign,if_pos h];exact AV.leS_refl _ _ _⟩
 ·have h:¬ n<0:=of_decide_eq_false h
  conv=>whnf
  refine⟨_,_,St.upd_same _ _ _,?_⟩;conv=>whnf
  refine⟨_,_,St.upd_same _ _ _,?_⟩;conv=>whnf
  refine split_of (fun h0=>?_) (fun h0=>?_)
  ·have h0:n=0:=by simpa using h0
   conv=>whnf
   exact⟨_,_,⟨rfl,rfl⟩,St.le_upd' (St.le_refl _) hb _,by rw[bSign,if_neg h,if_pos h0];exact AV.leS_refl _ _ _⟩
  ·have h0:¬ n=0:=by simpa using h0
   conv=>whnf
   exact⟨_,_,⟨rfl,rfl⟩,St.le_upd' (St.le_refl _) hb _,by rw[bSign,if_neg h,if_neg h0];exact AV.leS_refl _ _ _⟩
theorem Sign_far(neg:Bool)(l:List Nat)(hl:l≠[])(S:St):Triple P (C G) 193 [farAV neg l] S fun o S'=>o=.ret (.int .i64 (if neg then -1 else 1))∧S'=S:=by
 refine triple_of_awp (hT G) hm Tryz.func193 rfl (by decide +kernel) rfl (by decide +kernel) (by show 1≤_;decide +kernel) rfl ?_
 conv=>whnf
 intro b hb;conv=>whnf
 refine⟨_,_,St.upd_same _ _ _,?_⟩;conv=>whnf
 intro c hc;have hc:=hc (rowsU_ne hl);subst hc;conv=>whnf
 refine⟨_,_,St.upd_same _ _ _,?_⟩
 cases neg with
 | true=>
   conv=>whnf
   exact⟨_,_,⟨rfl,rfl⟩,St.le_upd' (St.le_refl _) hb _,AV.leS_refl _ _ _⟩
 | false=>
   conv=>whnf
   refine⟨_,_,St.upd_same _ _ _,?_⟩;conv=>whnf
   intro c hc;have hc:=hc (rowsU_ne hl);subst hc;conv=>whnf
   refine⟨_,_,St.upd_same _ _ _,?_⟩;conv=>whnf
   intro c hc;have hc:=hc (rowsU_ne hl);subst hc;conv=>whnf
   exact⟨_,_,⟨rfl,rfl⟩,St.le_upd' (St.le_refl _) hb _,AV.leS_refl _ _ _⟩
theorem Sign_ok(z:Int)(S:St):Triple P (C G) 193 [bigAV z] S fun o S'=>o=.ret (.int .i64 (bSign z))∧S'=S:=by
 by_cases h:near z
 ·rw[bigAV_near h];exact Sign_near z S
 ·rw[bigAV_far h];have hp:=far_pos h;refine(Sign_far _ _ (limbs_ne (by omega)) S).mono ?_
  rintro o S' ⟨rfl,rfl⟩;refine⟨?_,rfl⟩;unfold bSign near at *
  by_cases h0:z<0
  ·simp[h0]
  ·simp[h0];omega
theorem Neg_near(n:Int)(h:near n)(S:St):Triple P (C G) 202 [nearAV n] S fun o S'=>o=.ret (nearAV (-n))∧S'=S:=by
 have hw:IntKind.i64.wrap (0-n)=-n:=by unfold near at h;rw[wrap_i64 (by omega) (by omega)];omega
 refine triple_of_awp (hT G) hm Tryz.func202 rfl (by decide +kernel) rfl (by decide +kernel) (by show 1≤_;decide +kernel) rfl ?_
 conv=>whnf
 intro b hb;conv=>whnf
 intro b2 hb2;conv=>whnf
 refine⟨_,_,St.up hb2 (St.upd_same _ _ _),?_⟩;conv=>whnf
 refine⟨_,_,St.up hb2 (St.upd_same _ _ _),?_⟩;conv=>whnf
 refine⟨_,_,St.upd_same _ _ _,?_⟩;conv=>whnf
 refine⟨_,_,St.upd_same _ _ _,?_⟩;conv=>whnf
 refine⟨_,_,⟨rfl,rfl⟩,?_,?_⟩
 ·rw[St.upd_upd];exact St.le_upd' (St.le_upd' (St.le_refl _) hb _) hb2 _
 ·rw[hw];exact AV.leS_refl _ _ _
theorem Neg_far(neg:Bool)(l:List Nat)(hl:l≠[])(S:St):Triple P (C G) 202 [farAV neg l] S fun o S'=>o=.ret (farAV (!neg) l)∧S'=S:=by
 refine triple_of_awp (hT G) hm Tryz.func202 rfl (by decide +kernel) rfl (by decide +kernel) (by show 1≤_;decide +kernel) rfl ?_
 conv=>whnf
 intro b hb;conv=>whnf
 intro b2 hb2;conv=>whnf
 refine⟨_,_,St.up hb2 (St.upd_same _ _ _),?_⟩;conv=>whnf
 intro c hc;have hc:=hc (rowsU_ne hl);subst hc;conv=>whnf
 refine⟨_,_,St.up hb2 (St.upd_same _ _ _),?_⟩;conv=>whnf
 refine⟨_,_,St.up hb2 (St.upd_same _ _ _),?_⟩;conv=>whnf
 refine⟨_,_,St.upd_same _ _ _,?_⟩;conv=>whnf
 refine⟨_,_,St.upd_same _ _ _,?_⟩;conv=>whnf
 refine⟨_,_,⟨rfl,rfl⟩,?_,AV.leS_refl _ _ _⟩;rw[St.upd_upd];exact St.le_upd' (St.le_upd' (St.le_refl _) hb _) hb2 _
theorem near_neg{z:Int}:near (-z)↔near z:=by unfold near;omega
theorem Neg_ok(z:Int)(S:St):Triple P (C G) 202 [bigAV z] S fun o S'=>o=.ret (bigAV (-z))∧S'=S:=by
 by_cases h:near z
 ·rw[bigAV_near h,bigAV_near (near_neg.2 h)];exact Neg_near z h S
 ·rw[bigAV_far h,bigAV_far (fun hh=>h (near_neg.1 hh))]
  have hp:=far_pos h
  refine(Neg_far _ _ (limbs_ne (by omega)) S).mono ?_
  rintro o S' ⟨rfl,rfl⟩;refine⟨?_,rfl⟩;rw[Int.natAbs_neg,show decide (-z<0)=!decide (z<0) by
   by_cases h0:z<0
   ·simp[h0];omega
   ·simp[h0];omega]
theorem limbs_step{u n:Nat}{acc:List Nat}(h:acc++limbs u=limbs n)(hu:0<u):(acc++[u % 1000000000])++limbs (u / 1000000000)=limbs n:=by
 rw[← h,limbs_pos hu];simp
theorem size_near(n:Int)(h:near n)(S:St):Triple P (C G) 213 [nearAV n] S fun o S'=>o=.ret (.sl .any 1 (rowsU (limbs n.natAbs)))∧S'=S:=by
 have hw:IntKind.i64.wrap (0-n)=-n:=by unfold near at h;rw[wrap_i64 (by omega) (by omega)];omega
 refine triple_of_awp (hT G) hm Tryz.func213 rfl (by decide +kernel) rfl (by decide +kernel) (by show 1≤_;decide +kernel) rfl ?_
 conv=>whnf
 intro b hb;conv=>whnf
 refine⟨_,_,St.upd_same _ _ _,?_⟩;conv=>whnf
 refine⟨_,_,St.upd_same _ _ _,?_⟩;conv=>whnf
 refine⟨_,_,St.upd_same _ _ _,?_⟩;conv=>whnf
 have hu:IntKind.u64.wrap (if IntKind.i64.wrap (0-n) > n then IntKind.i64.wrap (0-n) else n)=(n.natAbs:Int):=by
  unfold near at h;rw[hw,IntKind.wrap_u64]
  split<;>omega
 have hlen:(limbs n.natAbs).length≤3:=limbs_len 3 _ (by unfold near at h;omega)
 refine⟨⟨Nat×List Nat×Nat,fun(u,acc,bb)=>[(3,.int .u64 (u:Int)),(4,.sl (.acc bb) 1 (rowsU acc))],
  fun(u,acc,bb) S'=>AccOk (S.upd b (.obj 237 [AV.int IntKind.i64 n,AV.bool false,AV.nils])) S' 213 1 bb acc.length∧acc++limbs u=limbs n.natAbs∧u≤n.natAbs,fun(u,_,_)=>u⟩,
  ⟨(n.natAbs,[],0),⟨congrArg _ hu,rfl,trivial⟩,_,St.leW_refl _,AccOk.init ..,rfl,Nat.le_refl _⟩,?_⟩
 rintro⟨(u:Nat),(acc:List Nat),(bb:Nat)⟩ S₁ ⟨h1,h2,h3⟩;conv=>whnf
 have hacc:acc.length≤3:=by have:=congrArg List.length h2;simp at this;omega
 have hu62:u<4611686018427387904:=by unfold near at h;omega
 refine split_of (fun hlt=>?_) (fun hlt=>?_)
 ·have hlt:0<u:=by simpa using hlt
  have w1:IntKind.u32.wrap ((u:Int).tmod 1000000000)=((u % 1000000000:Nat):Int):=by rw[Int.tmod_eq_emod_of_nonneg (by omega),IntKind.wrap_u32];omega
  have w2:IntKind.u64.wrap ((u:Int).tdiv 1000000000)=((u / 1000000000:Nat):Int):=by rw[Int.tdiv_eq_ediv_of_nonneg (by omega),IntKind.wrap_u64];omega
  conv=>whnf
  refine⟨by decide,?_⟩
  conv=>whnf
  intro b0 hb0;conv=>whnf
  have h1':=h1.other hb0 (.tip 213 1 1)
  refine⟨⟨fun h=>by have:=h1'.tip (List.length_pos_iff.2 (fun e=>h (by rw[e];rfl)));rw[rowsU_len];exact this,by show _*4≤_;simp;omega⟩,?_⟩
  conv=>whnf
  intro S₂ k1 k2 b' hb';conv=>whnf
  refine⟨by decide,?_⟩
  conv=>whnf
  have e1:rowsU acc++[[AV.int .u32 (IntKind.u32.wrap ((u:Int).tmod 1000000000))]]=rowsU (acc++[u % 1000000000]):=by rw[w1,rowsU_snoc]
  refine⟨(u / 1000000000,acc++[u % 1000000000],b'),⟨congrArg _ w2,congrArg _ e1,trivial⟩,⟨_,St.leW_refl _,h1'.push (es:=rowsU acc) (by simp) k1 k2 hb' (by simp),limbs_step h2 hlt,by omega⟩,by show u / 1000000000<u;omega⟩
 ·have hlt:u=0:=by simpa using hlt
  subst hlt;have h2:acc=limbs n.natAbs:=by simpa [limbs_zero] using h2
  subst h2;conv=>whnf
  exact⟨_,_,⟨rfl,rfl⟩,St.le_trans (St.le_upd' (St.le_refl _) hb _) h1.le,rfl,rfl⟩
theorem size_far(neg:Bool)(l:List Nat)(hl:l≠[])(S:St):Triple P (C G) 213 [farAV neg l] S fun o S'=>o=.ret (.sl .any 1 (rowsU l))∧S'=S:=by
 refine triple_of_awp (hT G) hm Tryz.func213 rfl (by decide +kernel) rfl (by decide +kernel) (by show 1≤_;decide +kernel) rfl ?_
 conv=>whnf
 intro b hb;conv=>whnf
 refine⟨_,_,St.upd_same _ _ _,?_⟩;conv=>whnf
 intro c hc;have hc:=hc (rowsU_ne hl);subst hc;conv=>whnf
 refine⟨_,_,St.upd_same _ _ _,?_⟩;conv=>whnf
 exact⟨_,_,⟨rfl,rfl⟩,St.le_upd' (St.le_refl _) hb _,AV.leS_refl _ _ _⟩
theorem size_ok(z:Int)(S:St):Triple P (C G) 213 [bigAV z] S fun o S'=>o=.ret (.sl .any 1 (rowsU (limbs z.natAbs)))∧S'=S:=by
 by_cases h:near z
 ·rw[bigAV_near h];exact size_near z h S
 ·rw[bigAV_far h];have hp:=far_pos h;exact size_far _ _ (limbs_ne (by omega)) S
theorem Of_near(n:Int)(h:near n)(S:St):Triple P (C G) 185 [.int .i64 n] S fun o S'=>o=.ret (nearAV n)∧S'=S:=by
 unfold near at h;refine triple_of_awp (hT G) hm Tryz.func185 rfl (by decide +kernel) rfl (by decide +kernel) (by show 1≤_;decide +kernel) rfl ?_
 conv=>whnf
 intro b hb;conv=>whnf
 refine split_of (fun _=>?_) (fun hh=>absurd (of_decide_eq_false hh) (by omega))
 conv=>whnf
 refine split_of (fun _=>?_) (fun hh=>absurd (of_decide_eq_false hh) (by omega))
 conv=>whnf
 refine⟨_,_,St.upd_same _ _ _,?_⟩;conv=>whnf
 refine⟨_,_,St.upd_same _ _ _,?_⟩;conv=>whnf
 refine⟨_,_,⟨rfl,rfl⟩,?_,AV.leS_refl _ _ _⟩;rw[St.upd_upd];exact St.le_upd' (St.le_refl _) hb _
theorem Of_far(n:Int)(h:¬ near n)(h0:-9223372036854775808≤n)(h1:n≤9223372036854775807)(S:St):Triple P (C G) 185 [.int .i64 n] S fun o S'=>o=.ret (farAV (decide (n<0)) (limbs n.natAbs))∧S'=S:=by
 have hlen:(limbs n.natAbs).length≤3:=limbs_len 3 _ (by omega)
 unfold near at h;refine triple_of_awp (hT G) hm Tryz.func185 rfl (by decide +kernel) rfl (by decide +kernel) (by show 1≤_;decide +kernel) rfl ?_
 conv=>whnf
 intro b hb;conv=>whnf
 refine split_of (fun hh=>?_) (fun hh=>?_)
 ·have hh:n > -4611686018427387904:=of_decide_eq_true hh
  conv=>whnf
  refine split_of (fun hh=>absurd (of_decide_eq_true hh) (by omega)) (fun _=>?_)
  conv=>whnf
  refine split_of (fun hh=>absurd (of_decide_eq_true hh) (by omega)) (fun hn0=>?_)
  conv=>whnf
  have hu:IntKind.u64.wrap n=(n.natAbs:Int):=by rw[IntKind.wrap_u64];omega
  have hneg:decide (n<0)=false:=decide_eq_false (by omega)
  refine⟨⟨Nat×List Nat×Nat,fun(u,acc,bb)=>[(0,.int .i64 n),(2,.ref b 0),(3,.int .u64 (u:Int)),(4,.sl (.acc bb) 1 (rowsU acc))],
   fun(u,acc,bb) S'=>AccOk (S.upd b (.obj 237 [AV.int IntKind.i64 0,AV.bool false,AV.nils])) S' 213 1 bb acc.length∧acc++limbs u=limbs n.natAbs∧u≤n.natAbs,fun(u,_,_)=>u⟩,
   ⟨(n.natAbs,[],0),⟨rfl,rfl,congrArg _ hu,rfl,trivial⟩,_,St.leW_refl _,AccOk.init ..,rfl,Nat.le_refl _⟩,?_⟩
  rintro⟨(u:Nat),(acc:List Nat),(bb:Nat)⟩ S₁ ⟨h1,h2,h3⟩;conv=>whnf
  have hacc:acc.length≤3:=by have:=congrArg List.length h2;simp at this;omega
  refine split_of (fun hlt=>?_) (fun hlt=>?_)
  ·have hlt:0<u:=by simpa using hlt
   have w1:IntKind.u32.wrap ((u:Int).tmod 1000000000)=((u % 1000000000:Nat):Int):=by rw[Int.tmod_eq_emod_of_nonneg (by omega),IntKind.wrap_u32];omega
   have w2:IntKind.u64.wrap ((u:Int).tdiv 1000000000)=((u / 1000000000:Nat):Int):=by rw[Int.tdiv_eq_ediv_of_nonneg (by omega),IntKind.wrap_u64];omega
   conv=>whnf
   refine⟨by decide,?_⟩
   conv=>whnf
   intro b0 hb0;conv=>whnf
   have h1':=h1.other hb0 (.tip 213 1 1)
   refine⟨⟨fun h=>by have:=h1'.tip (List.length_pos_iff.2 (fun e=>h (by rw[e];rfl)));rw[rowsU_len];exact this,by show _*4≤_;simp;omega⟩,?_⟩
   conv=>whnf
   intro S₂ k1 k2 b' hb';conv=>whnf
   refine⟨by decide,?_⟩
   conv=>whnf
   have e1:rowsU acc++[[AV.int .u32 (IntKind.u32.wrap ((u:Int).tmod 1000000000))]]=rowsU (acc++[u % 1000000000]):=by rw[w1,rowsU_snoc]
   refine⟨(u / 1000000000,acc++[u % 1000000000],b'),⟨rfl,rfl,congrArg _ w2,congrArg _ e1,trivial⟩,⟨_,St.leW_refl _,h1'.push (es:=rowsU acc) (by simp) k1 k2 hb' (by simp),limbs_step h2 hlt,by omega⟩,by show u / 1000000000<u;omega⟩
  ·have hlt:u=0:=by simpa using hlt
   subst hlt;have h2:acc=limbs n.natAbs:=by simpa [limbs_zero] using h2
   subst h2;conv=>whnf
   refine⟨_,_,h1.le _ _ (St.upd_same _ _ _),?_⟩;conv=>whnf
   refine⟨_,_,St.upd_same _ _ _,?_⟩;conv=>whnf
   refine⟨_,_,⟨rfl,rfl⟩,St.le_upd (St.le_trans (St.le_upd' (St.le_refl _) hb _) h1.le) hb _,rfl,rfl,⟨rfl,rfl⟩,rfl⟩
 ·have hh:¬ n > -4611686018427387904:=of_decide_eq_false hh
  conv=>whnf
  refine split_of (fun hn0=>?_) (fun hh=>absurd (of_decide_eq_false hh) (by omega))
  conv=>whnf
  have hu:IntKind.u64.wrap (0-IntKind.u64.wrap n)=(n.natAbs:Int):=by rw[IntKind.wrap_u64,IntKind.wrap_u64];omega
  have hneg:decide (n<0)=true:=decide_eq_true (by omega)
  refine⟨⟨Nat×List Nat×Nat,fun(u,acc,bb)=>[(0,.int .i64 n),(2,.ref b 0),(3,.int .u64 (u:Int)),(4,.sl (.acc bb) 1 (rowsU acc))],
   fun(u,acc,bb) S'=>AccOk (S.upd b (.obj 237 [AV.int IntKind.i64 0,AV.bool false,AV.nils])) S' 213 1 bb acc.length∧acc++limbs u=limbs n.natAbs∧u≤n.natAbs,fun(u,_,_)=>u⟩,
   ⟨(n.natAbs,[],0),⟨rfl,rfl,congrArg _ hu,rfl,trivial⟩,_,St.leW_refl _,AccOk.init ..,rfl,Nat.le_refl _⟩,?_⟩
  rintro⟨(u:Nat),(acc:List Nat),(bb:Nat)⟩ S₁ ⟨h1,h2,h3⟩;conv=>whnf
  have hacc:acc.length≤3:=by have:=congrArg List.length h2;simp at this;omega
  refine split_of (fun hlt=>?_) (fun hlt=>?_)
  ·have hlt:0<u:=by simpa using hlt
   have w1:IntKind.u32.wrap ((u:Int).tmod 1000000000)=((u % 1000000000:Nat):Int):=by rw[Int.tmod_eq_emod_of_nonneg (by omega),IntKind.wrap_u32];omega
   have w2:IntKind.u64.wrap ((u:Int).tdiv 1000000000)=((u / 1000000000:Nat):Int):=by rw[Int.tdiv_eq_ediv_of_nonneg (by omega),IntKind.wrap_u64];omega
   conv=>whnf
   refine⟨by decide,?_⟩
   conv=>whnf
   intro b0 hb0;conv=>whnf
   have h1':=h1.other hb0 (.tip 213 1 1)
   refine⟨⟨fun h=>by have:=h1'.tip (List.length_pos_iff.2 (fun e=>h (by rw[e];rfl)));rw[rowsU_len];exact this,by show _*4≤_;simp;omega⟩,?_⟩
   conv=>whnf
   intro S₂ k1 k2 b' hb';conv=>whnf
   refine⟨by decide,?_⟩
   conv=>whnf
   have e1:rowsU acc++[[AV.int .u32 (IntKind.u32.wrap ((u:Int).tmod 1000000000))]]=rowsU (acc++[u % 1000000000]):=by rw[w1,rowsU_snoc]
   refine⟨(u / 1000000000,acc++[u % 1000000000],b'),⟨rfl,rfl,congrArg _ w2,congrArg _ e1,trivial⟩,⟨_,St.leW_refl _,h1'.push (es:=rowsU acc) (by simp) k1 k2 hb' (by simp),limbs_step h2 hlt,by omega⟩,by show u / 1000000000<u;omega⟩
  ·have hlt:u=0:=by simpa using hlt
   subst hlt;have h2:acc=limbs n.natAbs:=by simpa [limbs_zero] using h2
   subst h2;conv=>whnf
   refine⟨_,_,h1.le _ _ (St.upd_same _ _ _),?_⟩;conv=>whnf
   refine⟨_,_,St.upd_same _ _ _,?_⟩;conv=>whnf
   refine⟨_,_,⟨rfl,rfl⟩,St.le_upd (St.le_trans (St.le_upd' (St.le_refl _) hb _) h1.le) hb _,rfl,rfl,⟨rfl,rfl⟩,rfl⟩
theorem Of_ok(n:Int)(h0:-9223372036854775808≤n)(h1:n≤9223372036854775807)(S:St):Triple P (C G) 185 [.int .i64 n] S fun o S'=>o=.ret (bigAV n)∧S'=S:=by
 by_cases h:near n
 ·rw[bigAV_near h];exact Of_near n h S
 ·rw[bigAV_far h];exact Of_far n h h0 h1 S
theorem Mul64_ok(x y:Nat)(hx:x<18446744073709551616)(hy:y<18446744073709551616)(S:St):Triple P (C G) 199 [.int .u64 (x:Int),.int .u64 (y:Int)] S fun o S'=>
 o=.ret (.tu [.int .u64 ((x*y / 18446744073709551616:Nat):Int),.int .u64 ((x*y % 18446744073709551616:Nat):Int)])∧S'=S:=by
 refine Triple.of_calls (x:=.tu [.int .u64 ((x*y / 18446744073709551616:Nat):Int),.int .u64 ((x*y % 18446744073709551616:Nat):Int)]) Tryz.func199 rfl (by decide +kernel) (fun w vs hg hr=>?_) ⟨rfl,rfl⟩
 obtain⟨u,v,hv,r1,r2⟩:=RelL.two hr;simp only[Rel] at r1 r2;subst r1 r2;have hvs:vs=#[.int .u64 (x:Int),.int .u64 (y:Int)]:=by
  have:=congrArg List.toArray hv
  simpa using this
 rw[hvs];refine(Tryz.bits_Mul64 x y hx hy w).mono fun e w' he=>?_
 obtain⟨rfl,rfl⟩:=he;exact⟨_,rfl,by simp only[Rel];exact⟨_,rfl,by simp[RelL,Rel]⟩,Below.refl _ _⟩
theorem Add64_ok(x y:Nat)(S:St):Triple P (C G) 200 [.int .u64 (x:Int),.int .u64 (y:Int),.int .u64 0] S fun o S'=>
 o=.ret (.tu [.int .u64 (((x+y) % 18446744073709551616:Nat):Int),.int .u64 (((x+y) / 18446744073709551616:Nat):Int)])∧S'=S:=by
 refine Triple.of_run (x:=.tu [.int .u64 (((x+y) % 18446744073709551616:Nat):Int),.int .u64 (((x+y) / 18446744073709551616:Nat):Int)]) (fun w vs hg hr=>?_) ⟨rfl,rfl⟩
 simp only[RelL,Rel] at hr;obtain⟨u,us,h1,rfl,u2,us2,h2,rfl,u3,us3,h3,rfl,h4⟩:=hr;subst h4;have hvs:vs=#[.int .u64 (x:Int),.int .u64 (y:Int),.int .u64 0]:=by
  have h:vs.toList=[.int .u64 (x:Int),.int .u64 (y:Int),.int .u64 0]:=by rw[h1,h2,h3]
  have:=congrArg List.toArray h
  simpa using this
 rw[hvs];refine⟨_,?_,by simp only[Rel];exact⟨_,rfl,by simp only[RelL,Rel];exact⟨_,_,rfl,rfl,_,_,rfl,rfl,rfl⟩⟩⟩
 rw[run_callFunc_extern Tryz.func200 (by kernel_rfl) (by kernel_rfl) (by kernel_rfl) (e:=add64Entry) (by kernel_rfl),run_add64 x y 0 (by omega) (by omega) (by omega) (by omega)]
 simp only[Result.andThen,Int.add_zero]
 congr 5<;>omega
theorem valL_append:∀ (l r:List Nat),valL (l++r)=valL l+1000000000 ^ l.length*valL r
 | [],r=>by simp[valL]
 | d::l,r=>by
   simp only[List.cons_append,valL,valL_append l r,List.length_cons,Nat.pow_succ];rw[Nat.mul_add,Nat.mul_comm (1000000000 ^ l.length) 1000000000,Nat.mul_assoc];omega
def trimZ(l:List Nat):List Nat:=(l.reverse.dropWhile (fun d=>d == 0)).reverse
theorem trimZ_nil:trimZ []=[]:=rfl
theorem trimZ_zero(l:List Nat):trimZ (l++[0])=trimZ l:=by simp[trimZ]
theorem trimZ_pos(l:List Nat){d:Nat}(h:d≠0):trimZ (l++[d])=l++[d]:=by simp[trimZ,h]
theorem valL_trim(l:List Nat):valL (trimZ l)=valL l:=by
 have:∀ r:List Nat,valL (trimZ r.reverse)=valL r.reverse:=by
  intro r
  induction r with
  | nil=>rfl
  | cons d r ih=>
    rw[List.reverse_cons]
    by_cases h:d=0
    ·subst h;rw[trimZ_zero,ih,valL_append];simp[valL]
    ·rw[trimZ_pos _ h]
 simpa using this l.reverse
theorem limbs_of{l:List Nat}(hd:∀ d∈l,d<1000000000)(hl:∀ i d,l=i++[d]→d≠0):l=limbs (valL l):=by
 induction l with
 | nil=>rfl
 | cons d l ih=>
   have h1:l=limbs (valL l):=ih (fun x hx=>hd x (by simp[hx])) (fun i x hx=>hl (d::i) x (by rw[hx];rfl))
   have hdd:=hd d (by simp)
   have hpos:0<valL (d::l):=by
    simp only[valL]
    cases l with
    | nil=>have:=hl [] d rfl;omega
    | cons e r=>
      have:0<valL (e::r):=by
       rcases Nat.eq_zero_or_pos (valL (e::r)) with h0 | h0
       ·rw[h0,limbs_zero] at h1;cases h1
       ·exact h0
      omega
   rw[limbs_pos hpos];simp only[valL];rw[show(d+1000000000*valL l) % 1000000000=d by omega,show(d+1000000000*valL l) / 1000000000=valL l by omega,← h1]
theorem trim_limbs{l:List Nat}(hd:∀ d∈l,d<1000000000):trimZ l=limbs (valL l):=by
 rw[← valL_trim l];refine limbs_of (fun d hd'=>hd d ?_) (fun i d e=>?_)
 ·unfold trimZ at hd';simp only[List.mem_reverse] at hd';have:=List.dropWhile_sublist (fun d=>d == 0) (l:=l.reverse)
  simpa using this.subset hd'
 ·unfold trimZ at e;have e2:=congrArg List.reverse e;simp only[List.reverse_reverse,List.reverse_append,List.reverse_cons,List.reverse_nil,List.nil_append,List.singleton_append] at e2;intro h0;have:=List.head?_dropWhile_not (fun d=>d == 0) l.reverse
  rw[e2] at this
  simp[h0] at this
theorem Backward_ok(l:List Nat)(S:St):Triple P (C G) 198 [.sl .any 1 (rowsU l)] S fun o S'=>∃ bs,S bs=none∧o=.ret (.fn (.func 212) [] [.ref bs 0])∧S'=S.upd bs (.obj 235 [.sl .any 1 (rowsU l)]):=by
 refine triple_of_awp (hT G) hm Tryz.func198 rfl (by decide +kernel) rfl (by decide +kernel) (by show 1≤_;decide +kernel) rfl ?_
 conv=>whnf
 intro bs hbs;rw[forceL_eq];conv=>whnf
 exact⟨_,_,⟨bs,hbs,rfl,rfl⟩,St.le_refl _,AV.leS_refl _ _ _⟩
theorem TripleE.mono{f:FuncId}{C:Cx}{args:List AV}{S:St}{Q Q':Out→St→Prop}(h:TripleE P C f args S Q)(hq:∀ o S',Q o S'→Q' o S'):TripleE P C f args S Q':=
 ⟨h.enter,fun w vs hY hg hr=>(h.out w vs hY hg hr).mono fun e w' ⟨o,S',h1,h2,h3,h4⟩=>⟨o,S',h1,h2,h3,hq _ _ h4⟩⟩
theorem Backward1_ok(l:List Nat)(hl:l.length≤1000000000)(bs l0:Nat)(Y:List AV→St→(Bool→St→Prop)→Prop)(I:Nat→St→Prop)(S0:St)(h0:I 0 S0)
 (hs:∀ k S,k≤l.length→I k S→S bs=some (.obj 235 [.sl .any 1 (rowsU l)]))
 (hstep:∀ k S (h:k<l.length),I k S→∀ K:Bool→St→Prop,(∀ S',I (k+1) S'→K true S')→Y [.int .i64 ((l.length:Int)-1-(k:Int)),.int .u32 ((l[l.length-1-k]:Nat):Int)] S K) :
 TripleE P ((C G).withY ⟨l0,Y⟩) 212 [.fn (.yield l0) [] [],.ref bs 0] S0 fun o S'=>(∃ x,o=.ret x)∧I l.length S':=by
 refine tripleE_of_awp (C:=(C G).withY _) (hT G) hm Tryz.func212 rfl (by decide +kernel) rfl (by decide +kernel) (by show 2≤_;decide +kernel) rfl ?_
 conv=>whnf
 refine⟨_,_,hs 0 _ (by omega) h0,?_⟩
 conv=>whnf
 intro _;conv=>whnf
 refine⟨⟨Nat,fun k=>[(0,.fn (.yield l0) [] []),(1,.ref bs 0),(3,.int .i64 ((l.length:Int)-1-(k:Int)))],
  fun k S'=>I k S'∧k≤l.length,fun k=>l.length-k⟩,
  ⟨0,⟨rfl,rfl,congrArg (AV.int .i64) (show IntKind.i64.wrap (((rowsU l).length:Int)-1)=(l.length:Int)-1-((0:Nat):Int) by rw[rowsU_len,wrap_i64 (by omega) (by omega)];omega),trivial⟩,_,St.leW_refl _,h0,by omega⟩,?_⟩
 rintro(k:Nat) S2 ⟨hI,hk⟩;conv=>whnf
 refine split_of (fun hge=>?_) (fun hge=>?_)
 ·have hk2:k<l.length:=by have:=of_decide_eq_true hge;omega
  conv=>whnf
  refine⟨_,_,hs k _ hk hI,?_⟩;conv=>whnf
  have eix:((l.length:Int)-1-(k:Int)).toNat=l.length-1-k:=by omega
  refine⟨[.int .u32 ((l[l.length-1-k]:Nat):Int)],⟨by omega,by rw[eix];simp only[rowsU,List.getElem?_map];rw[List.getElem?_eq_getElem (by omega)];rfl⟩,?_⟩
  conv=>whnf
  refine⟨rfl,?_⟩;refine hstep k S2 hk2 hI _ fun S3 hI3=>?_
  conv=>whnf
  exact⟨k+1,⟨rfl,rfl,congrArg (AV.int .i64) (show IntKind.i64.wrap ((l.length:Int)-1-(k:Int)-1)=(l.length:Int)-1-((k+1:Nat):Int) by rw[wrap_i64 (by omega) (by omega)];omega),trivial⟩,⟨_,St.leW_refl _,hI3,by omega⟩,by show l.length-(k+1)<l.length-k;omega⟩
 ·obtain rfl:k=l.length:=by have:=of_decide_eq_false hge;omega
  conv=>whnf
  exact⟨_,_,⟨⟨_,rfl⟩,hI⟩,St.le_refl _,AV.leS_refl _ _ _⟩
def MSt(S:St)(b b5 b6 bs l:Nat)(hi u:Nat)(rows:List (List AV))(o:Own):St:=
 ((((S.upd b (.obj 237 [AV.int IntKind.i64 0,AV.bool false,AV.nils])).upd b5 (.obj 215 [.int .u64 (hi:Int)])).upd b6 (.obj 215 [.int .u64 (u:Int)])).upd bs (.obj 235 [.sl .any 1 rows])).upd l o
structure MNe (b b5 b6 bs l:Nat):Prop where
 a1:b5≠b
 a2:b6≠b
 a3:bs≠b
 a4:l≠b
 a5:b6≠b5
 a6:bs≠b5
 a7:l≠b5
 a8:bs≠b6
 a9:l≠b6
 a10:l≠bs
section
variable {S:St} {b b5 b6 bs l:Nat} {hi u:Nat} {rows:List (List AV)} {o:Own} (h:MNe b b5 b6 bs l)
include h
theorem MSt.at_l:MSt S b b5 b6 bs l hi u rows o l=some o:=St.upd_same _ _ _
theorem MSt.at_bs:MSt S b b5 b6 bs l hi u rows o bs=some (.obj 235 [.sl .any 1 rows]):=St.ov h.a10.symm (St.upd_same _ _ _)
theorem MSt.at_b6:MSt S b b5 b6 bs l hi u rows o b6=some (.obj 215 [.int .u64 (u:Int)]):=St.ov h.a9.symm (St.ov h.a8.symm (St.upd_same _ _ _))
theorem MSt.at_b5:MSt S b b5 b6 bs l hi u rows o b5=some (.obj 215 [.int .u64 (hi:Int)]):=St.ov h.a7.symm (St.ov h.a6.symm (St.ov h.a5.symm (St.upd_same _ _ _)))
theorem MSt.at_b:MSt S b b5 b6 bs l hi u rows o b=some (.obj 237 [AV.int IntKind.i64 0,AV.bool false,AV.nils]):=St.ov h.a4.symm (St.ov h.a3.symm (St.ov h.a2.symm (St.ov h.a1.symm (St.upd_same _ _ _))))
omit h in
theorem MSt.put_l(o':Own):(MSt S b b5 b6 bs l hi u rows o).upd l o'=MSt S b b5 b6 bs l hi u rows o':=by unfold MSt;rw[St.upd_upd]
theorem MSt.put_b6(u':Nat):(MSt S b b5 b6 bs l hi u rows o).upd b6 (.obj 215 [.int .u64 (u':Int)])=MSt S b b5 b6 bs l hi u' rows o:=by
 unfold MSt;rw[St.upd_comm h.a9,St.upd_comm h.a8,St.upd_upd]
theorem MSt.put_b5(hi':Nat):(MSt S b b5 b6 bs l hi u rows o).upd b5 (.obj 215 [.int .u64 (hi':Int)])=MSt S b b5 b6 bs l hi' u rows o:=by
 unfold MSt;rw[St.upd_comm h.a7,St.upd_comm h.a6,St.upd_comm h.a5,St.upd_upd]
end
def M4(S:St)(b b5 b6 bs:Nat)(hi u:Int)(rows:List (List AV)):St:=
 (((S.upd b (.obj 237 [AV.int IntKind.i64 0,AV.bool false,AV.nils])).upd b5 (.obj 215 [.int .u64 hi])).upd b6 (.obj 215 [.int .u64 u])).upd bs (.obj 235 [.sl .any 1 rows])
theorem MSt.del_l{S:St}{b b5 b6 bs l:Nat}{hi u:Nat}{rows:List (List AV)}{o:Own}(h:MNe b b5 b6 bs l)(hl:S l=none):(MSt S b b5 b6 bs l hi u rows o).del l=M4 S b b5 b6 bs (hi:Int) (u:Int) rows:=by
 unfold MSt M4;refine St.del_upd ?_;exact(St.upd_ne _ _ _ _ h.a10).trans ((St.upd_ne _ _ _ _ h.a9).trans ((St.upd_ne _ _ _ _ h.a7).trans ((St.upd_ne _ _ _ _ h.a4).trans hl)))
section
variable {S:St} {b b5 b6 bs l:Nat} {hi u:Int} {rows:List (List AV)} (h:MNe b b5 b6 bs l)
include h
theorem M4.at_b6:M4 S b b5 b6 bs hi u rows b6=some (.obj 215 [.int .u64 u]):=St.ov h.a8.symm (St.upd_same _ _ _)
theorem M4.at_b5:M4 S b b5 b6 bs hi u rows b5=some (.obj 215 [.int .u64 hi]):=St.ov h.a6.symm (St.ov h.a5.symm (St.upd_same _ _ _))
theorem M4.at_b:M4 S b b5 b6 bs hi u rows b=some (.obj 237 [AV.int IntKind.i64 0,AV.bool false,AV.nils]):=St.ov h.a3.symm (St.ov h.a2.symm (St.ov h.a1.symm (St.upd_same _ _ _)))
theorem M4.le(hb:S b=none)(h5:S b5=none)(h6:S b6=none)(hs:S bs=none)(o:Own):St.le S ((M4 S b b5 b6 bs hi u rows).upd b o):=by
 unfold M4;exact St.le_upd (St.le_upd (St.le_upd (St.le_upd (St.le_upd (St.le_refl _) hb _) h5 _) h6 _) hs _) hb _
end
def topV(l:List Nat)(k:Nat):Nat:=valL (l.drop (l.length-k))
theorem topV_zero(l:List Nat):topV l 0=0:=by simp[topV,valL]
theorem topV_all(l:List Nat):topV l l.length=valL l:=by simp[topV]
theorem topV_succ{l:List Nat}{k:Nat}(h:k<l.length):topV l (k+1)=l[l.length-1-k]+1000000000*topV l k:=by
 unfold topV;rw[List.drop_eq_getElem_cons (show l.length-(k+1)<l.length by omega)]
 simp only[valL];rw[show l.length-(k+1)+1=l.length-k by omega]
 congr 2
 omega
theorem topV_lt{l:List Nat}(hd:∀ d∈l,d<1000000000):∀ k,k≤l.length→topV l k<1000000000 ^ k
 | 0,_=>by rw[topV_zero];decide
 | k+1,h=>by
   rw[topV_succ (by omega),Nat.pow_succ]
   have:=topV_lt hd k (by omega)
   have:=hd _ (List.getElem_mem (show l.length-1-k<l.length by omega))
   omega
theorem made_far{v:Nat}(h:4611686018427387904≤v)(neg:Bool)(S S':St):AV.leS S S' (.ag [.int .i64 0,.bool neg,.sl .any 1 (rowsU (limbs v))]) (bigAV (if neg then -(v:Int) else (v:Int))):=by
 have hf:¬ near (if neg then -(v:Int) else (v:Int)):=by unfold near;cases neg<;>simp<;>omega
 rw[bigAV_far hf,show(if neg then -(v:Int) else (v:Int)).natAbs=v by cases neg<;>simp,show decide ((if neg then -(v:Int) else (v:Int))<0)=neg by cases neg<;>simp<;>omega]
 exact AV.leS_refl _ _ _
set_option maxHeartbeats 4000000 in
theorem made_ok(neg:Bool)(l:List Nat)(hd:∀ d∈l,d<1000000000)(hlen:l.length≤1000000000)(S:St) :
 Triple P (C G) 191 [.sl .any 1 (rowsU l),.bool neg] S fun o S'=>o=.ret (bigAV (if neg then -(valL l:Int) else (valL l:Int)))∧S'=S:=by
 refine triple_of_awp (hT G) hm Tryz.func191 rfl (by decide +kernel) rfl (by decide +kernel) (by show 2≤_;decide +kernel) rfl ?_
 refine awp_seq2 fun K hK hQ=>?_
 conv=>whnf
 intro b hb;rw[forceL_eq];conv=>whnf
 refine hK _ _ ?_;clear hK hQ K;refine awp_seq2 fun K hK hQ=>?_
 conv=>whnf
 refine⟨⟨List Nat,fun cur=>[(0,.sl .any 1 (rowsU cur)),(1,.bool neg),(4,.ref b 0)],
  fun cur S'=>S'=S.upd b (.obj 237 [AV.int IntKind.i64 0,AV.bool false,AV.nils])∧trimZ cur=trimZ l∧cur.length≤l.length,fun cur=>cur.length⟩,
  ⟨l,⟨⟨rfl,rfl⟩,rfl,rfl,trivial⟩,_,St.leW_refl _,rfl,rfl,Nat.le_refl _⟩,?_⟩
 rintro(cur:List Nat) S₁ ⟨rfl,h2,h3⟩;conv=>whnf
 intro hl64;conv=>whnf
 refine split_of (fun hh=>?_) (fun hh=>?_)
 ·have hpos:0<cur.length:=by simpa [rowsU] using hh
  obtain⟨init,d,hcd⟩:∃ init d,cur=init++[d]:=by
   rcases List.eq_nil_or_concat cur with rfl | ⟨init,d,rfl⟩
   ·simp at hpos
   ·exact⟨init,d,by simp⟩
  have hcl:cur.length=init.length+1:=by rw[hcd];simp
  conv=>whnf
  intro hl64;conv=>whnf
  have e1:IntKind.i64.wrap (((rowsU cur).length:Int)-1)=(init.length:Int):=by simp only[rowsU_len] at *;rw[wrap_i64 (by omega) (by omega)];omega
  refine⟨[.int .u32 (d:Int)],⟨by rw[e1];omega,by rw[e1,hcd];simp[rowsU]⟩,?_⟩
  conv=>whnf
  refine split_of (fun hd0=>?_) (fun hd0=>?_)
  ·have hd0:d=0:=by simpa using hd0
   conv=>whnf
   intro _;conv=>whnf
   refine⟨by rw[e1];simp;omega,?_⟩
   conv=>whnf
   have e2:((rowsU cur).take (IntKind.i64.wrap (((rowsU cur).length:Int)-1)).toNat).drop (0:Int).toNat=rowsU init:=by rw[e1,hcd];simp[rowsU]
   refine⟨init,⟨⟨rfl,e2⟩,rfl,rfl,trivial⟩,⟨_,St.leW_refl _,rfl,by rw[← h2,hcd,hd0,trimZ_zero],by omega⟩,by show init.length<cur.length;omega⟩
  ·have hd0:d≠0:=by simpa using hd0
   conv=>whnf
   refine hK _ _ ?_;have hcur:=h2.symm;rw[hcd,trimZ_pos _ hd0,← hcd] at hcur;have hdc:∀ d∈cur,d<1000000000:=by rw[← hcur,trim_limbs hd];exact limbs_lt _
   clear hK hQ K;refine awp_seq2 fun K hK hQ=>?_
   conv=>whnf
   intro _;conv=>whnf
   refine split_of (fun hle3=>?_) (fun hle3=>?_)
   ·have hle3:(cur).length≤3:=by have:=of_decide_eq_true hle3;rw[rowsU_len] at this;omega
    refine awp_seq2 fun K2 hK2 hQ2=>?_
    conv=>whnf
    intro b5 hb5;conv=>whnf
    intro b6 hb6;conv=>whnf
    refine⟨_,_,St.up hb6 (St.upd_same _ _ _),?_⟩;conv=>whnf
    refine⟨_,_,St.ov (St.ne_upd hb6) (St.upd_same _ _ _),?_⟩;conv=>whnf
    refine hK2 _ _ ?_;clear hK2 hQ2 K2;refine awp_seq2 fun K2 hK2 hQ2=>?_
    conv=>whnf
    refine(Backward_ok cur _).mono ?_;rintro o S' ⟨bs,hbs,rfl,rfl⟩;conv=>whnf
    intro l0 R hl0;have n:MNe b b5 b6 bs l0:=⟨St.ne_upd hb5,St.ne_upd (St.no hb6),St.ne_upd (St.no (St.no (St.no (St.no hbs)))),St.ne_upd (St.no (St.no (St.no (St.no (St.no hl0))))),St.ne_upd hb6,St.ne_upd (St.no hbs),St.ne_upd (St.no (St.no hl0)),St.ne_upd hbs,St.ne_upd (St.no hl0),St.ne_upd hl0⟩;have hst:(((((((S.upd b (.obj 237 [AV.int IntKind.i64 0,AV.bool false,AV.nils])).upd b5 (.obj 215 [.int .u64 0])).upd b6 (.obj 215 [.int .u64 0])).upd b5 (.obj 215 [.int .u64 0])).upd b6 (.obj 215 [.int .u64 0])).upd bs (.obj 235 [.sl .any 1 (rowsU cur)])).upd l0 (.lp R .ready))=MSt S b b5 b6 bs l0 0 0 (rowsU cur) (.lp R .ready):=by
     unfold MSt;rw[St.upd_comm n.a5 _ (.obj 215 [.int .u64 0]),St.upd_upd,St.upd_upd];rfl
    rw[hst];refine(Backward1_ok cur (by omega) bs l0 _ (fun k S'=>S'=MSt S b b5 b6 bs l0 (topV cur k / 18446744073709551616) (topV cur k % 18446744073709551616) (rowsU cur) (.lp R .ready)) _ (by rw[topV_zero]) (fun k S' _ h=>by subst h;exact MSt.at_bs n) (fun k S' hk2 hI K hK=>?_)).mono ?_
    ·subst hI;have hk:k≤cur.length:=by omega
     refine⟨⟨MSt.at_l n,rfl⟩,?_⟩;conv=>whnf
     refine⟨MSt.at_l n,?_⟩;rw[MSt.put_l];have hw0:topV cur k<1000000000000000000:=Nat.lt_of_lt_of_le (topV_lt hdc k hk) (Nat.pow_le_pow_right (by omega) (show k≤2 by omega))
     have hts:=topV_succ hk2
     have hdd:=hdc _ (List.getElem_mem (show cur.length-1-k<cur.length by omega))
     generalize hw1:topV cur (k+1)=w1 at *;generalize topV cur k=w0 at *;generalize cur[cur.length-1-k]=d at *;have hw0m:w0 % 18446744073709551616=w0:=by omega
     rw[hw0m];conv=>whnf
     refine⟨_,_,MSt.at_b6 n,?_⟩;conv=>whnf
     refine(Mul64_ok w0 1000000000 (by omega) (by omega) _).mono ?_
     rintro o S' ⟨rfl,rfl⟩;conv=>whnf
     refine⟨_,_,MSt.at_b5 n,?_⟩;conv=>whnf
     rw[MSt.put_b5 n];refine⟨_,_,MSt.at_b6 n,?_⟩;conv=>whnf
     rw[MSt.put_b6 n];refine⟨_,_,MSt.at_b6 n,?_⟩;conv=>whnf
     have wd:IntKind.u64.wrap (d:Int)=(d:Int):=by rw[IntKind.wrap_u64];omega
     rw[wd];refine(Add64_ok (w0*1000000000 % 18446744073709551616) d _).mono ?_;rintro o S' ⟨rfl,rfl⟩;conv=>whnf
     refine⟨_,_,MSt.at_b6 n,?_⟩;conv=>whnf
     rw[MSt.put_b6 n];refine⟨_,_,MSt.at_b5 n,?_⟩;conv=>whnf
     refine⟨_,_,MSt.at_b5 n,?_⟩;conv=>whnf
     have eu:(w0*1000000000 % 18446744073709551616+d) % 18446744073709551616=w1 % 18446744073709551616:=by omega
     have eh:IntKind.u64.wrap (((w0*1000000000 / 18446744073709551616:Nat):Int)+(((w0*1000000000 % 18446744073709551616+d) / 18446744073709551616:Nat):Int))=((w1 / 18446744073709551616:Nat):Int):=by rw[IntKind.wrap_u64];omega
     rw[eu,eh,MSt.put_b5 n];refine⟨MSt.at_l n,?_⟩;conv=>whnf
     rw[MSt.put_l];exact hK _ rfl
    ·rintro o S' ⟨⟨x,rfl⟩,rfl⟩;refine⟨⟨_,rfl⟩,.ready,MSt.at_l n,?_⟩;conv=>whnf
     refine hK2 _ _ ?_;clear hK2 hQ2 K2;rw[MSt.del_l n (St.no (St.no (St.no (St.no (St.no (St.no hl0)))))),topV_all];have hvl:valL cur=valL l:=by rw[← hcur,valL_trim]
     rw[hvl];have hcl:cur=limbs (valL l):=by rw[← hcur,trim_limbs hd]
     have hv128:valL l<1000000000000000000000000000:=by
      have:=topV_lt hdc cur.length (Nat.le_refl _)
      rw[topV_all,hvl] at this;exact Nat.lt_of_lt_of_le this (Nat.pow_le_pow_right (by omega) hle3)
     generalize hv:valL l=v at *;generalize hum:((v % 18446744073709551616:Nat):Int)=um at *;generalize hhi:((v / 18446744073709551616:Nat):Int)=hi at *;have f0:=St.no (St.no (St.no (St.no (St.no hbs))));have f5:=St.no hb5;have f6:=St.no (St.no hb6);refine awp_seq2 fun K2 hK2 hQ2=>?_
     conv=>whnf
     refine⟨_,_,M4.at_b5 n,?_⟩;conv=>whnf
     refine split_of (fun h0=>?_) (fun h0=>?_)
     ·have h0:hi=0:=by simpa using h0
      conv=>whnf
      refine⟨_,_,M4.at_b6 n,?_⟩;conv=>whnf
      refine hK2 _ _ ?_;clear hK2 hQ2 K2;refine awp_cond rfl (fun h1=>?_) (fun h1=>?_)
      ·have h1:um<4611686018427387904:=by simpa using h1
       have hvu:um=(v:Int):=by omega
       have e1:IntKind.i64.wrap um=(v:Int):=by rw[hvu,wrap_i64 (by omega) (by omega)]
       conv=>whnf
       refine⟨_,_,M4.at_b6 n,?_⟩;conv=>whnf
       rw[e1]
       cases neg with
       | true=>
         conv=>whnf
         refine⟨_,_,M4.at_b n,?_⟩;conv=>whnf
         refine hQ _ _ _ (by simp) ?_
         conv=>whnf
         refine⟨_,_,St.upd_same _ _ _,?_⟩;conv=>whnf
         refine⟨_,_,⟨rfl,rfl⟩,M4.le n hb f5 f6 f0 _,?_⟩;rw[wrap_i64 (by omega) (by omega),show(0:Int)-(v:Int)=-(v:Int) by omega,if_pos rfl,bigAV_near (by unfold near;omega)]
         exact AV.leS_refl _ _ _
       | false=>
         conv=>whnf
         refine⟨_,_,M4.at_b n,?_⟩;conv=>whnf
         refine hQ _ _ _ (by simp) ?_
         conv=>whnf
         refine⟨_,_,St.upd_same _ _ _,?_⟩;conv=>whnf
         refine⟨_,_,⟨rfl,rfl⟩,M4.le n hb f5 f6 f0 _,?_⟩;rw[if_neg (by simp),bigAV_near (by unfold near;omega)]
         exact AV.leS_refl _ _ _
      ·have h1:¬ um<4611686018427387904:=by simpa using h1
       have hfar:4611686018427387904≤v:=by omega
       conv=>whnf
       refine hK _ _ ?_;clear hK hQ K;conv=>whnf
       refine⟨_,_,M4.at_b n,?_⟩;conv=>whnf
       refine⟨_,_,St.upd_same _ _ _,?_⟩;conv=>whnf
       refine⟨_,_,⟨rfl,rfl⟩,M4.le n hb f5 f6 f0 _,?_⟩;rw[hcl];exact made_far hfar neg _ _
     ·have h0:hi≠0:=by simpa using h0
      have hfar:4611686018427387904≤v:=by omega
      conv=>whnf
      refine hK2 _ _ ?_;clear hK2 hQ2 K2;conv=>whnf
      refine hK _ _ ?_;clear hK hQ K;conv=>whnf
      refine⟨_,_,M4.at_b n,?_⟩;conv=>whnf
      refine⟨_,_,St.upd_same _ _ _,?_⟩;conv=>whnf
      refine⟨_,_,⟨rfl,rfl⟩,M4.le n hb f5 f6 f0 _,?_⟩;rw[hcl];exact made_far hfar neg _ _
   ·have hle3:¬ (cur).length≤3:=by have:=of_decide_eq_false hle3;rw[rowsU_len] at this;omega
    have hcl:cur=limbs (valL l):=by rw[← hcur,trim_limbs hd]
    have hfar:4611686018427387904≤valL l:=by
     rcases Nat.lt_or_ge (valL l) (1000000000 ^ 3) with h | h
     ·have:=limbs_len 3 _ h
      rw[← hcl] at this;exact absurd this hle3
     ·exact Nat.le_trans (by decide) h
    generalize hv:valL l=v at *;conv=>whnf
    refine hK _ _ ?_;clear hK hQ K;conv=>whnf
    refine⟨_,_,St.upd_same _ _ _,?_⟩;conv=>whnf
    refine⟨_,_,St.upd_same _ _ _,?_⟩;conv=>whnf
    refine⟨_,_,⟨rfl,rfl⟩,by rw[St.upd_upd];exact St.le_upd' (St.le_refl _) hb _,?_⟩
    rw[hcl];exact made_far hfar neg _ _
 ·have hnil:cur=[]:=by
   have:¬ 0<cur.length:=by simpa [rowsU] using hh
   exact List.length_eq_zero_iff.1 (by omega)
  conv=>whnf
  refine hK _ _ ?_;have hcur:trimZ l=cur:=by rw[← h2,hnil,trimZ_nil]
  have hdc:∀ d∈cur,d<1000000000:=by rw[← hcur,trim_limbs hd];exact limbs_lt _
  clear hK hQ K;refine awp_seq2 fun K hK hQ=>?_
  conv=>whnf
  intro _;conv=>whnf
  refine split_of (fun hle3=>?_) (fun hle3=>?_)
  ·have hle3:(cur).length≤3:=by have:=of_decide_eq_true hle3;rw[rowsU_len] at this;omega
   refine awp_seq2 fun K2 hK2 hQ2=>?_
   conv=>whnf
   intro b5 hb5;conv=>whnf
   intro b6 hb6;conv=>whnf
   refine⟨_,_,St.up hb6 (St.upd_same _ _ _),?_⟩;conv=>whnf
   refine⟨_,_,St.ov (St.ne_upd hb6) (St.upd_same _ _ _),?_⟩;conv=>whnf
   refine hK2 _ _ ?_;clear hK2 hQ2 K2;refine awp_seq2 fun K2 hK2 hQ2=>?_
   conv=>whnf
   refine(Backward_ok cur _).mono ?_;rintro o S' ⟨bs,hbs,rfl,rfl⟩;conv=>whnf
   intro l0 R hl0;have n:MNe b b5 b6 bs l0:=⟨St.ne_upd hb5,St.ne_upd (St.no hb6),St.ne_upd (St.no (St.no (St.no (St.no hbs)))),St.ne_upd (St.no (St.no (St.no (St.no (St.no hl0))))),St.ne_upd hb6,St.ne_upd (St.no hbs),St.ne_upd (St.no (St.no hl0)),St.ne_upd hbs,St.ne_upd (St.no hl0),St.ne_upd hl0⟩;have hst:(((((((S.upd b (.obj 237 [AV.int IntKind.i64 0,AV.bool false,AV.nils])).upd b5 (.obj 215 [.int .u64 0])).upd b6 (.obj 215 [.int .u64 0])).upd b5 (.obj 215 [.int .u64 0])).upd b6 (.obj 215 [.int .u64 0])).upd bs (.obj 235 [.sl .any 1 (rowsU cur)])).upd l0 (.lp R .ready))=MSt S b b5 b6 bs l0 0 0 (rowsU cur) (.lp R .ready):=by
    unfold MSt;rw[St.upd_comm n.a5 _ (.obj 215 [.int .u64 0]),St.upd_upd,St.upd_upd];rfl
   rw[hst];refine(Backward1_ok cur (by omega) bs l0 _ (fun k S'=>S'=MSt S b b5 b6 bs l0 (topV cur k / 18446744073709551616) (topV cur k % 18446744073709551616) (rowsU cur) (.lp R .ready)) _ (by rw[topV_zero]) (fun k S' _ h=>by subst h;exact MSt.at_bs n) (fun k S' hk2 hI K hK=>?_)).mono ?_
   ·subst hI;have hk:k≤cur.length:=by omega
    refine⟨⟨MSt.at_l n,rfl⟩,?_⟩;conv=>whnf
    refine⟨MSt.at_l n,?_⟩;rw[MSt.put_l];have hw0:topV cur k<1000000000000000000:=Nat.lt_of_lt_of_le (topV_lt hdc k hk) (Nat.pow_le_pow_right (by omega) (show k≤2 by omega))
    have hts:=topV_succ hk2
    have hdd:=hdc _ (List.getElem_mem (show cur.length-1-k<cur.length by omega))
    generalize hw1:topV cur (k+1)=w1 at *;generalize topV cur k=w0 at *;generalize cur[cur.length-1-k]=d at *;have hw0m:w0 % 18446744073709551616=w0:=by omega
    rw[hw0m];conv=>whnf
    refine⟨_,_,MSt.at_b6 n,?_⟩;conv=>whnf
    refine(Mul64_ok w0 1000000000 (by omega) (by omega) _).mono ?_
    rintro o S' ⟨rfl,rfl⟩;conv=>whnf
    refine⟨_,_,MSt.at_b5 n,?_⟩;conv=>whnf
    rw[MSt.put_b5 n];refine⟨_,_,MSt.at_b6 n,?_⟩;conv=>whnf
    rw[MSt.put_b6 n];refine⟨_,_,MSt.at_b6 n,?_⟩;conv=>whnf
    have wd:IntKind.u64.wrap (d:Int)=(d:Int):=by rw[IntKind.wrap_u64];omega
    rw[wd];refine(Add64_ok (w0*1000000000 % 18446744073709551616) d _).mono ?_;rintro o S' ⟨rfl,rfl⟩;conv=>whnf
    refine⟨_,_,MSt.at_b6 n,?_⟩;conv=>whnf
    rw[MSt.put_b6 n];refine⟨_,_,MSt.at_b5 n,?_⟩;conv=>whnf
    refine⟨_,_,MSt.at_b5 n,?_⟩;conv=>whnf
    have eu:(w0*1000000000 % 18446744073709551616+d) % 18446744073709551616=w1 % 18446744073709551616:=by omega
    have eh:IntKind.u64.wrap (((w0*1000000000 / 18446744073709551616:Nat):Int)+(((w0*1000000000 % 18446744073709551616+d) / 18446744073709551616:Nat):Int))=((w1 / 18446744073709551616:Nat):Int):=by rw[IntKind.wrap_u64];omega
    rw[eu,eh,MSt.put_b5 n];refine⟨MSt.at_l n,?_⟩;conv=>whnf
    rw[MSt.put_l];exact hK _ rfl
   ·rintro o S' ⟨⟨x,rfl⟩,rfl⟩;refine⟨⟨_,rfl⟩,.ready,MSt.at_l n,?_⟩;conv=>whnf
    refine hK2 _ _ ?_;clear hK2 hQ2 K2;rw[MSt.del_l n (St.no (St.no (St.no (St.no (St.no (St.no hl0)))))),topV_all];have hvl:valL cur=valL l:=by rw[← hcur,valL_trim]
    rw[hvl];have hcl:cur=limbs (valL l):=by rw[← hcur,trim_limbs hd]
    have hv128:valL l<1000000000000000000000000000:=by
     have:=topV_lt hdc cur.length (Nat.le_refl _)
     rw[topV_all,hvl] at this;exact Nat.lt_of_lt_of_le this (Nat.pow_le_pow_right (by omega) hle3)
    generalize hv:valL l=v at *;generalize hum:((v % 18446744073709551616:Nat):Int)=um at *;generalize hhi:((v / 18446744073709551616:Nat):Int)=hi at *;have f0:=St.no (St.no (St.no (St.no (St.no hbs))));have f5:=St.no hb5;have f6:=St.no (St.no hb6);refine awp_seq2 fun K2 hK2 hQ2=>?_
    conv=>whnf
    refine⟨_,_,M4.at_b5 n,?_⟩;conv=>whnf
    refine split_of (fun h0=>?_) (fun h0=>?_)
    ·have h0:hi=0:=by simpa using h0
     conv=>whnf
     refine⟨_,_,M4.at_b6 n,?_⟩;conv=>whnf
     refine hK2 _ _ ?_;clear hK2 hQ2 K2;refine awp_cond rfl (fun h1=>?_) (fun h1=>?_)
     ·have h1:um<4611686018427387904:=by simpa using h1
      have hvu:um=(v:Int):=by omega
      have e1:IntKind.i64.wrap um=(v:Int):=by rw[hvu,wrap_i64 (by omega) (by omega)]
      conv=>whnf
      refine⟨_,_,M4.at_b6 n,?_⟩;conv=>whnf
      rw[e1]
      cases neg with
      | true=>
        conv=>whnf
        refine⟨_,_,M4.at_b n,?_⟩;conv=>whnf
        refine hQ _ _ _ (by simp) ?_
        conv=>whnf
        refine⟨_,_,St.upd_same _ _ _,?_⟩;conv=>whnf
        refine⟨_,_,⟨rfl,rfl⟩,M4.le n hb f5 f6 f0 _,?_⟩;rw[wrap_i64 (by omega) (by omega),show(0:Int)-(v:Int)=-(v:Int) by omega,if_pos rfl,bigAV_near (by unfold near;omega)]
        exact AV.leS_refl _ _ _
      | false=>
        conv=>whnf
        refine⟨_,_,M4.at_b n,?_⟩;conv=>whnf
        refine hQ _ _ _ (by simp) ?_
        conv=>whnf
        refine⟨_,_,St.upd_same _ _ _,?_⟩;conv=>whnf
        refine⟨_,_,⟨rfl,rfl⟩,M4.le n hb f5 f6 f0 _,?_⟩;rw[if_neg (by simp),bigAV_near (by unfold near;omega)]
        exact AV.leS_refl _ _ _
     ·have h1:¬ um<4611686018427387904:=by simpa using h1
      have hfar:4611686018427387904≤v:=by omega
      conv=>whnf
      refine hK _ _ ?_;clear hK hQ K;conv=>whnf
      refine⟨_,_,M4.at_b n,?_⟩;conv=>whnf
      refine⟨_,_,St.upd_same _ _ _,?_⟩;conv=>whnf
      refine⟨_,_,⟨rfl,rfl⟩,M4.le n hb f5 f6 f0 _,?_⟩;rw[hcl];exact made_far hfar neg _ _
    ·have h0:hi≠0:=by simpa using h0
     have hfar:4611686018427387904≤v:=by omega
     conv=>whnf
     refine hK2 _ _ ?_;clear hK2 hQ2 K2;conv=>whnf
     refine hK _ _ ?_;clear hK hQ K;conv=>whnf
     refine⟨_,_,M4.at_b n,?_⟩;conv=>whnf
     refine⟨_,_,St.upd_same _ _ _,?_⟩;conv=>whnf
     refine⟨_,_,⟨rfl,rfl⟩,M4.le n hb f5 f6 f0 _,?_⟩;rw[hcl];exact made_far hfar neg _ _
  ·have hle3:¬ (cur).length≤3:=by have:=of_decide_eq_false hle3;rw[rowsU_len] at this;omega
   have hcl:cur=limbs (valL l):=by rw[← hcur,trim_limbs hd]
   have hfar:4611686018427387904≤valL l:=by
    rcases Nat.lt_or_ge (valL l) (1000000000 ^ 3) with h | h
    ·have:=limbs_len 3 _ h
     rw[← hcl] at this;exact absurd this hle3
    ·exact Nat.le_trans (by decide) h
   generalize hv:valL l=v at *;conv=>whnf
   refine hK _ _ ?_;clear hK hQ K;conv=>whnf
   refine⟨_,_,St.upd_same _ _ _,?_⟩;conv=>whnf
   refine⟨_,_,St.upd_same _ _ _,?_⟩;conv=>whnf
   refine⟨_,_,⟨rfl,rfl⟩,by rw[St.upd_upd];exact St.le_upd' (St.le_refl _) hb _,?_⟩
   rw[hcl];exact made_far hfar neg _ _
theorem predGrows{g:FuncId}{p:Nat→Bool}{w:World}{S:St}(hg:Good (C G) w S)(h:∀ x:Nat,x≤1114111→TripleE P (C G) g [.int .i32 (x:Int)] St.emp fun o S'=>o=.ret (.bool (p x))∧S'=St.emp):PredGrows P g #[] p w:=fun W x hx hb=>by
 have hg0:Good (C G) w St.emp:=hg.shrink (fun b o h=>by cases h)
 have hgW:Good (C G) W St.emp:=hg0.of_below hb
 refine((h x hx).out W (#[encR x]++#[]) (YOk.none rfl _ _) hgW (by simp only[encR,Array.append_empty,RelL,Rel];exact⟨_,_,rfl,rfl,rfl⟩)).mono fun e w' he=>?_
 obtain⟨o,S',h1,h2,h3,rfl,rfl⟩:=he
 cases e with
 | returned v=>simp only[OutRel,Rel] at h1;subst h1;exact⟨rfl,h3.below⟩
 | panicked c=>exact h1.elim
 | outgrown=>exact h1.elim
theorem CutPrefix_ok(s p:ByteArray)(S:St):Triple P (C G) 186 [.str s,.str p] S fun o S'=>
 o=.ret (.tu [.str ⟨(Lib.trimPrefix s.data.toList p.data.toList).toArray⟩,.bool (Lib.hasPrefix s.data.toList p.data.toList)])∧S'=S:=by
 refine Triple.of_calls (x:=.tu [.str ⟨(Lib.trimPrefix s.data.toList p.data.toList).toArray⟩,.bool (Lib.hasPrefix s.data.toList p.data.toList)]) Tryz.func186 rfl (by decide +kernel) (fun w vs hg hr=>?_) ⟨rfl,rfl⟩
 obtain⟨u,v,hv,r1,r2⟩:=RelL.two hr;simp only[Rel] at r1 r2;subst r1 r2;have hvs:vs=#[.string s,.string p]:=by
  have:=congrArg List.toArray hv
  simpa using this
 rw[hvs];refine(Tryz.strings_CutPrefix s p w).mono fun e w' he=>?_
 obtain⟨rfl,rfl⟩:=he;exact⟨_,rfl,by simp only[Rel];exact⟨_,rfl,by simp[RelL,Rel]⟩,Below.refl _ _⟩
theorem ContainsFunc_ok{g:FuncId}{p:Nat→Bool}(h:∀ x:Nat,x≤1114111→TripleE P (C G) g [.int .i32 (x:Int)] St.emp fun o S'=>o=.ret (.bool (p x))∧S'=St.emp)(s:ByteArray)(S:St) :
 Triple P (C G) 189 [.str s,.fn (.func g) [] []] S fun o S'=>o=.ret (.bool (decide (0≤Lib.idxFunc p true s)))∧S'=S:=by
 refine Triple.of_calls (x:=.bool (decide (0≤Lib.idxFunc p true s))) Tryz.func189 rfl (by decide +kernel) (fun w vs hg hr=>?_) ⟨rfl,rfl⟩
 obtain⟨u,v,hv,r1,r2⟩:=RelL.two hr;simp only[Rel] at r1 r2;obtain⟨a1,a2,rfl,q1,q2⟩:=r2;simp only[RelL] at q1 q2;have e1:a1=#[]:=by simpa using q1
 have e2:a2=#[]:=by simpa using q2
 subst r1 e1 e2;have hvs:vs=#[.string s,.func (.func g) #[] #[]]:=by
  have:=congrArg List.toArray hv
  simpa using this
 rw[hvs];refine(Tryz.strings_ContainsFunc_grows g #[] (fun vs w=>(h 0 (by omega)).enter vs w) p s w (predGrows hg h)).mono fun e w' he=>?_
 obtain⟨rfl,hb⟩:=he;exact⟨_,rfl,by simp only[Rel],hb⟩
def noDigit(x:Nat):Bool:=decide (x<48) || decide (57<x)
theorem Parse1_ok(x:Nat)(hx:x≤1114111):TripleE P (C G) 190 [.int .i32 (x:Int)] St.emp fun o S'=>o=.ret (.bool (noDigit x))∧S'=St.emp:=by
 refine tripleE_of_awp (hT G) hm Tryz.func190 rfl (by decide +kernel) rfl (by decide +kernel) (by show 1≤_;decide +kernel) rfl ?_
 conv=>whnf
 refine split_of (fun h=>?_) (fun h=>?_)
 ·have h:x<48:=by have:=of_decide_eq_true h;omega
  conv=>whnf
  exact⟨_,_,⟨rfl,rfl⟩,St.le_refl _,by simp only[noDigit,h,decide_true,Bool.true_or];exact AV.leS_refl _ _ _⟩
 ·have h:¬ x<48:=by have:=of_decide_eq_false h;omega
  conv=>whnf
  refine⟨_,_,⟨rfl,rfl⟩,St.le_refl _,?_⟩;have e:decide ((x:Int) > 57)=noDigit x:=by
   by_cases h2:57<x
   ·simp only[noDigit,h,h2,decide_true,decide_false,Bool.false_or];exact decide_eq_true (by omega)
   ·simp only[noDigit,h,h2,decide_false,Bool.false_or];exact decide_eq_false (by omega)
  rw[e];exact AV.leS_refl _ _ _
def digitB(c:UInt8):Bool:=decide (48≤c.toNat) && decide (c.toNat≤57)
def decV(d:List UInt8):Nat:=d.foldl (fun n c=>10*n+(c.toNat-48)) 0
def parseI(l:List UInt8):Option Int:=
 let d:=Lib.trimPrefix l [45]
 if d=[]∨(d.head? = some 48∧l≠[48])∨d.all digitB=false then none else some (if Lib.hasPrefix l [45] then -(decV d:Int) else (decV d:Int))
theorem size_list(l:List UInt8):(⟨l.toArray⟩:ByteArray).size=l.length:=by simp[ByteArray.size]
theorem noDigit_iff(c:UInt8):noDigit c.toNat=true↔digitB c=false:=by
 unfold noDigit digitB
 by_cases h1:c.toNat<48<;>by_cases h2:57<c.toNat<;>simp[h1,h2]<;>omega
theorem idx_digits(s:ByteArray):∀ (f pos:Nat),s.size-pos≤f→(Lib.idxFuncFrom noDigit true s f pos=-1↔∀ i (h:i<s.size),pos≤i→digitB (s[i]'h)=true)∧(Lib.idxFuncFrom noDigit true s f pos=-1∨0≤Lib.idxFuncFrom noDigit true s f pos)
 | 0,pos,hf=>⟨⟨fun _ i h hp=>by omega,fun _=>rfl⟩,.inl rfl⟩
 | f+1,pos,hf=>by
   unfold Lib.idxFuncFrom
   by_cases hp:pos<s.size
   ·rw[if_pos hp]
    by_cases ha:(s[pos]'hp).toNat<128
    ·rw[decode_ascii s pos hp ha]
     by_cases hd:noDigit (s[pos]'hp).toNat=true
     ·rw[if_pos hd];refine⟨⟨fun h=>by omega,fun h=>?_⟩,.inr (by omega)⟩
      have:=h pos hp (Nat.le_refl _)
      rw[(noDigit_iff _).1 hd] at this;cases this
     ·rw[if_neg hd];obtain⟨k1,k2⟩:=idx_digits s f (pos+1) (by omega)
      refine⟨k1.trans ⟨fun h i hi hpi=>?_,fun h i hi hpi=>h i hi (by omega)⟩,k2⟩
      by_cases e:i=pos
      ·subst e
       cases hb:digitB (s[i]'hi) with
       | true=>rfl
       | false=>exact absurd ((noDigit_iff _).2 hb) hd
      ·exact h i hi (by omega)
    ·obtain⟨h1,h2⟩:=decode_high s pos hp (by omega)
     have hn:noDigit (Utf8.decode s pos).1=true:=by unfold noDigit;simp;omega
     rw[if_pos hn];refine⟨⟨fun h=>by omega,fun h=>?_⟩,.inr (by omega)⟩
     have:=h pos hp (Nat.le_refl _)
     unfold digitB at this
     simp at this
     omega
   ·rw[if_neg hp];exact⟨⟨fun _ i h hpi=>by omega,fun _=>rfl⟩,.inl rfl⟩
theorem idx_all(d:List UInt8):decide (0≤Lib.idxFunc noDigit true ⟨d.toArray⟩)=!(d.all digitB):=by
 obtain⟨k1,k2⟩:=idx_digits ⟨d.toArray⟩ (⟨d.toArray⟩:ByteArray).size 0 (by omega)
 have hall:(∀ i (h:i<(⟨d.toArray⟩:ByteArray).size),0≤i→digitB ((⟨d.toArray⟩:ByteArray)[i]'h)=true)↔d.all digitB=true:=by
  rw[List.all_eq_true]
  constructor
  ·intro h c hc;obtain⟨i,hi,rfl⟩:=List.mem_iff_getElem.1 hc;exact h i (by rw[size_list];exact hi) (by omega)
  ·intro h i hi _;exact h _ (List.getElem_mem (by rw[size_list] at hi;exact hi))
 rw[hall] at k1
 cases hb:d.all digitB with
 | true=>exact decide_eq_false (by show ¬ 0≤Lib.idxFuncFrom _ _ _ _ _;rw[k1.2 hb];decide)
 | false=>
   refine decide_eq_true ?_
   rcases k2 with h | h
   ·rw[k1.1 h] at hb;cases hb
   ·exact h
end Go.Proofs.YtjpboanohpaibaaGreatDoor.Aw

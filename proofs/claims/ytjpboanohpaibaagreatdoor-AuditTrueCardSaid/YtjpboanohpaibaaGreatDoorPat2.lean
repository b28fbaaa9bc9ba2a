/- The abstract walk is sound: small facts on values, types and worlds, and each operation. No condition. The abstract walk -/
import Derived.Test.YtjpboanohpaibaaGreatDoorPat1
import Derived.Laws.CopyRow
import Derived.Lib.Strings
import Derived.Laws.StructEq
import Derived.ChangeKeysEq
import Derived.Laws.IdiomStrings
set_option linter.all false
namespace Go.Proofs.YtjpboanohpaibaaGreatDoor.Aw
open Go Go.RowKit
theorem force_eq(x:AV)(K:AV→Prop):force x K=K x:=by cases x<;>rfl
theorem forceL_eq(xs:List AV)(K:List AV→Prop):forceL xs K=K xs:=by
 induction xs generalizing K with
 | nil=>rfl
 | cons x xs ih=>simp only[forceL,force_eq,ih]
theorem forceR_eq(xs:List (List AV))(K:List (List AV)→Prop):forceR xs K=K xs:=by
 induction xs generalizing K with
 | nil=>rfl
 | cons x xs ih=>simp only[forceR,forceL_eq,ih]
theorem when_iff(b:Bool)(K:Prop):when b K↔b=true∧K:=by cases b<;>simp[when]
theorem split_iff(b:Bool)(Kt Kf:Prop):split b Kt Kf↔(b=true→Kt)∧(b=false→Kf):=by cases b<;>simp[split]
theorem split_of{b:Bool}{Kt Kf:Prop}(ht:b=true→Kt)(hf:b=false→Kf):split b Kt Kf:=(split_iff _ _ _).2 ⟨ht,hf⟩
section
variable {P:Program} {C:Cx}
theorem ty_info(hT:TyOk P C){t:TypeId}(hk:known C t=true) :
 ∃ i d,P.info? t=some i∧i.size=(C.T t).size∧i.bytes=(C.T t).bytes∧i.zero=some (C.T t).zero∧P.underlying t=some d∧kindOf d=(C.T t).kind∧
  (C.T t).zero.cells.size=(C.T t).size∧(C.T t).zero.cells.toList.all Value.oneCell'=true:=by
 rcases hT.1 t with h | h
 ·obtain⟨h1,h2,h3,h4⟩:=h;obtain⟨i,hi,he⟩:=Option.map_eq_some_iff.1 h1;obtain⟨d,hd,hk⟩:=Option.map_eq_some_iff.1 h2;simp only[Prod.mk.injEq] at he;exact⟨i,d,hi,he.1,he.2.1,he.2.2,hd,hk,h3,h4⟩
 ·simp[known,h,TI.none] at hk
theorem known_of{t:TypeId}{k:TK}(h:(C.T t).kind=k)(hk:k≠.other):known C t=true:=by
 unfold known;rw[h];cases k<;>simp_all
theorem und_slice(hT:TyOk P C){t e:TypeId}(h:(C.T t).kind=.slice e):P.underlying t=some (.slice e):=by
 obtain⟨i,d,_,_,_,_,hd,hk,_⟩:=ty_info hT (known_of h (by simp))
 rw[h] at hk;rw[hd];cases d<;>simp_all [kindOf]
theorem und_array(hT:TyOk P C){t e:TypeId}{n:Nat}(h:(C.T t).kind=.array n e):P.underlying t=some (.array n e):=by
 obtain⟨i,d,_,_,_,_,hd,hk,_⟩:=ty_info hT (known_of h (by simp))
 rw[h] at hk;rw[hd];cases d<;>simp_all [kindOf]
theorem und_str(hT:TyOk P C){t:TypeId}(h:(C.T t).kind=.str):P.underlying t=some .string:=by
 obtain⟨i,d,_,_,_,_,hd,hk,_⟩:=ty_info hT (known_of h (by simp))
 rw[h] at hk;rw[hd];cases d<;>simp_all [kindOf]
theorem und_int(hT:TyOk P C){t:TypeId}{k:IntKind}(h:(C.T t).kind=.int k):P.underlying t=some (.int k):=by
 obtain⟨i,d,_,_,_,_,hd,hk,_⟩:=ty_info hT (known_of h (by simp))
 rw[h] at hk;rw[hd];cases d<;>simp_all [kindOf]
theorem und_map(hT:TyOk P C){t k e:TypeId}(h:(C.T t).kind=.map k e):P.underlying t=some (.map k e):=by
 obtain⟨i,d,_,_,_,_,hd,hk,_⟩:=ty_info hT (known_of h (by simp))
 rw[h] at hk;rw[hd];cases d<;>simp_all [kindOf]
theorem und_struct(hT:TyOk P C){t:TypeId}{fs:List (Nat×TypeId)}(h:(C.T t).kind=.strct fs):∃ fa,P.underlying t=some (.struct fa)∧fa.toList.map (fun f=>(f.offset,f.type))=fs:=by
 obtain⟨i,d,_,_,_,_,hd,hk,_⟩:=ty_info hT (known_of h (by simp))
 rw[h] at hk
 cases d<;>simp_all [kindOf]
theorem und_ptr(hT:TyOk P C){t e:TypeId}(h:(C.T t).kind=.ptr e):P.underlying t=some (.pointer e):=by
 obtain⟨i,d,_,_,_,_,hd,hk,_⟩:=ty_info hT (known_of h (by simp))
 rw[h] at hk;rw[hd];cases d<;>simp_all [kindOf]
theorem und_bool(hT:TyOk P C){t:TypeId}(h:(C.T t).kind=.bool):P.underlying t=some .bool:=by
 obtain⟨i,d,_,_,_,_,hd,hk,_⟩:=ty_info hT (known_of h (by simp))
 rw[h] at hk;rw[hd];cases d<;>simp_all [kindOf]
theorem und_iface(hT:TyOk P C){t:TypeId}{b:Bool}(h:(C.T t).kind=.iface b):∃ ms,P.underlying t=some (.interface ms):=by
 obtain⟨i,d,_,_,_,_,hd,hk,_⟩:=ty_info hT (known_of h (by simp))
 rw[h] at hk;cases d<;>simp_all [kindOf]
theorem und_fn(hT:TyOk P C){t:TypeId}(h:(C.T t).kind=.fn):∃ a b c,P.underlying t=some (.func a b c):=by
 obtain⟨i,d,_,_,_,_,hd,hk,_⟩:=ty_info hT (known_of h (by simp))
 rw[h] at hk;cases d<;>simp_all [kindOf]
theorem run_size(hT:TyOk P C){t:TypeId}(hk:known C t=true)(w:World):(sizeOf t).run P w=.ok (C.T t).size w:=by
 obtain⟨i,d,hi,hs,_⟩:=ty_info hT hk
 simp[sizeOf,typeInfo,hi,hs]
theorem run_isAgg(hT:TyOk P C){t:TypeId}(hk:known C t=true)(w:World):(isAgg t).run P w=.ok (C.T t).agg w:=by
 obtain⟨i,d,hi,_,_,_,hd,hk,_⟩:=ty_info hT hk;simp only[isAgg,Sem.run_bind,run_underlying hd,Result.andThen_ok,TI.agg,← hk]
 cases d<;>rfl
end
theorem Rel_ofV0(w:World)(rd)(v:Value):Rel w rd (ofV0 v) v:=by
 unfold ofV0
 split<;>simp[Rel]
theorem RelL_ofV0(w:World)(rd):∀ vs:List Value,RelL w rd (vs.map ofV0) vs
 | []=>by simp[RelL]
 | v::vs=>by simp only[List.map_cons,RelL];exact⟨v,vs,rfl,Rel_ofV0 w rd v,RelL_ofV0 w rd vs⟩
theorem Rel_ofV(w:World)(rd)(v:Value):Rel w rd (ofV v) v:=by
 unfold ofV
 split
 ·split
  ·rename_i cs h
   simp only[Rel];exact⟨cs,rfl,RelL_ofV0 w rd _,fun u hu=>List.all_eq_true.1 h u hu⟩
  ·simp[Rel]
 ·exact Rel_ofV0 w rd v
theorem RelL_cellsOf{w:World}{rd}{x:AV}{v:Value}(h:Rel w rd x v)(ho:okCells x=true):RelL w rd (cellsOf x) v.cells.toList∧∀ u∈v.cells.toList,u.oneCell'=true:=by
 cases x<;>simp only[okCells,scal,Bool.false_eq_true] at ho<;>simp only[cellsOf]
 case ag xs=>
  simp only[Rel] at h;obtain⟨cs,rfl,h2,h3⟩:=h;exact⟨h2,h3⟩
 all_goals
  have hc:v.cells=#[v]∧v.oneCell'=true:=by
   simp only[Rel] at h
   first
    | (subst h;exact⟨rfl,rfl⟩)
    | (rcases h with ⟨_,_,hz⟩ | ⟨_,_,_,rfl,_⟩
       ·obtain⟨_,rfl⟩:=hz.slice;exact⟨rfl,rfl⟩
       ·exact⟨rfl,rfl⟩)
    | (obtain⟨_,_,rfl,_⟩:=h;exact⟨rfl,rfl⟩)
    | (obtain⟨_,rfl,_⟩:=h;exact⟨rfl,rfl⟩)
  refine⟨?_,by rw[hc.1];simpa using hc.2⟩
  rw[hc.1];simp only[RelL];exact⟨v,[],rfl,h,rfl⟩
theorem heap_alloc_lt(w:World)(o:Obj){b:Nat}(hb:b<w.heap.size):(w.alloc o).heap[b]? = w.heap[b]?:=heap_alloc_old w o hb
theorem cell_of_block{w w':World}{b:Nat}(h:w'.heap[b]? = w.heap[b]?)(off:Nat):w'.cell? ⟨b,off,none⟩=w.cell? ⟨b,off,none⟩:=
 World.cell?_of_block (a:=⟨b,off,none⟩) h
theorem shape_of_block{w w':World}{b:Nat}(h:w'.heap[b]? = w.heap[b]?):w'.shape? b=w.shape? b:=by simp[World.shape?,h]
theorem shape_lt{w:World}{b:Nat}{x}(h:w.shape? b=some x):b<w.heap.size:=by
 unfold World.shape? at h
 cases e:w.heap[b]? with
 | none=>rw[e] at h;cases h
 | some o=>exact lt_of_block e
theorem Adv.alloc{w:World}{S:St}(o:Obj)(hS:S w.heap.size=none):Adv w S (w.alloc o) S:=by
 refine⟨rfl,rfl,rfl,by simp,fun b hb hn=>⟨hn,heap_alloc_lt w o hb⟩,fun b off hb hr=>⟨hr,cell_of_block (heap_alloc_lt w o hb) off⟩,fun b e n h=>?_⟩
 rw[shape_of_block (heap_alloc_lt w o (shape_lt h))];exact h
theorem Adv.allocOwn{w:World}{S:St}(o:Obj)(p:Own)(hS:S w.heap.size=none):Adv w S (w.alloc o) (S.upd w.heap.size p):=by
 refine⟨rfl,rfl,rfl,by simp,fun b hb hn=>⟨?_,heap_alloc_lt w o hb⟩,fun b off hb hr=>⟨?_,cell_of_block (heap_alloc_lt w o hb) off⟩,fun b e n h=>?_⟩
 ·rw[St.upd_ne _ _ _ _ (Nat.ne_of_lt hb)];exact hn
 ·simp only[rdOf,St.upd_ne _ _ _ _ (Nat.ne_of_lt hb)];exact hr
 ·rw[shape_of_block (heap_alloc_lt w o (shape_lt h))];exact h
theorem Inv.alloc{w:World}{S:St}(hi:Inv w S)(o:Obj):Inv (w.alloc o) S:=fun b p h=>
 OwnOk.mono (Adv.alloc o hi.fresh) (heap_alloc_lt w o (hi.lt h)) (hi b p h)
theorem Inv.allocOwn{w:World}{S:St}(hi:Inv w S)(o:Obj)(p:Own)(hp:OwnOk (w.alloc o) (rdOf (S.upd w.heap.size p)) w.heap.size p):Inv (w.alloc o) (S.upd w.heap.size p):=by
 intro b q h
 by_cases e:b=w.heap.size
 ·subst e;rw[St.upd_same] at h;cases h;exact hp
 ·rw[St.upd_ne _ _ _ _ e] at h;exact OwnOk.mono (Adv.allocOwn o p hi.fresh) (heap_alloc_lt w o (hi.lt h)) (hi b q h)
theorem GlobOk.mono{C:Cx}{w w':World}{S S':St}(hg:GlobOk C w S)(h:Adv w S w' S'):GlobOk C w' S':=fun g xs e=>by
 obtain⟨h1,h2,h3,ee,h4⟩:=hg g xs e;exact⟨(h.old g h2 h1).1,Nat.lt_of_lt_of_le h2 h.size,RelAt.mono h g 0 xs h3,ee,h.shape _ _ _ h4⟩
theorem Good.mk{C:Cx}{w w':World}{S S':St}(hg:Good C w S)(hi:Inv w' S')(h:Adv w S w' S'):Good C w' S':=⟨hi,hg.2.mono h⟩
theorem Good.drew{C:Cx}{w:World}{S:St}(hg:Good C w S):Good C w.drew S:=hg.mk hg.1.drew (Adv.refl w S).drew
theorem Good.shrink{C:Cx}{w:World}{S S':St}(hg:Good C w S')(h:St.le S S'):Good C w S:=hg.mk (hg.1.shrink h) (Adv.shrink h)
structure RelEnv (w:World) (S:St) (tmps:Array Value) (env:Env) (n:Nat):Prop where
 size:tmps.size=n
 at_:∀ t,Rel w (rdOf S) (look t env) (tmps.getD t undef)
theorem RelEnv.mono{w w':World}{S S':St}{tmps:Array Value}{env:Env}{n:Nat}(h:RelEnv w S tmps env n)(ha:Adv w S w' S'):RelEnv w' S' tmps env n:=
 ⟨h.size,fun t=>Rel.mono ha _ _ (h.at_ t)⟩
theorem look_cons(t s:Nat)(x:AV)(env:Env):look t ((s,x)::env)=if s=t then x else look t env:=by
 show(bif Nat.beq s t then x else look t env)=_
 by_cases h:s=t
 ·subst h;rw[if_pos rfl,Nat.beq_refl];rfl
 ·rw[if_neg h];have:Nat.beq s t=false:=by
   cases e:Nat.beq s t with
   | false=>rfl
   | true=>exact absurd (Nat.eq_of_beq_eq_true e) h
  rw[this];rfl
theorem RelEnv.put{w:World}{S:St}{a:Act}{env:Env}{n:Nat}(h:RelEnv w S a.tmps env n)(d:Option Tmp)(hd:∀ t,d=some t→t<n){x:AV}{v:Value}(hx:Rel w (rdOf S) x v) :
 RelEnv w S (a.put d v).tmps (put d x env) n:=by
 cases d with
 | none=>exact h
 | some d=>
   have hdn:=hd d rfl
   have hsz:=h.size
   refine⟨by simp[Act.put,h.size],fun t=>?_⟩
   simp only[Act.put,Aw.put,look_cons]
   by_cases e:d=t
   ·subst e;simp only[if_true];simp[Array.getD,h.size,hdn];exact hx
   ·simp only[if_neg e];have:=h.at_ t;simp only[Array.getD_eq_getD_getElem?,Array.getElem?_setIfInBounds_ne e] at this ⊢;exact this
theorem RelEnv.know{w:World}{S:St}{tmps:Array Value}{env:Env}{n:Nat}(h:RelEnv w S tmps env n)(t:Nat){x:AV}(hx:Rel w (rdOf S) x (tmps.getD t undef)):RelEnv w S tmps ((t,x)::env) n:=
 ⟨h.size,fun s=>by rw[look_cons];split;(· rename_i e;subst e;exact hx);exact h.at_ s⟩
theorem ev_sound{C:Cx}{w:World}{S:St}{a:Act}{env:Env}{n:Nat}(hg:Good C w S)(h:RelEnv w S a.tmps env n)(x:Operand):Rel w (rdOf S) (ev C env x) (a.eval x):=by
 cases x with
 | tmp t=>exact h.at_ t
 | const v=>exact Rel_ofV w _ v
 | func f=>simp only[ev,Act.eval,Rel];exact⟨#[],#[],rfl,by simp[RelL],by simp[RelL]⟩
 | global g=>
   simp only[ev,Act.eval]
   cases e:C.G g with
   | none=>simp[Rel]
   | some xs=>simp only[Rel];exact⟨g,0,rfl,(hg.2 g xs e).2.2.1⟩
theorem evL_sound{C:Cx}{w:World}{S:St}{a:Act}{env:Env}{n:Nat}(hg:Good C w S)(h:RelEnv w S a.tmps env n):∀ xs:List Operand,RelL w (rdOf S) (xs.map (ev C env)) (xs.map a.eval)
 | []=>by simp[RelL]
 | x::xs=>by simp only[List.map_cons,RelL];exact⟨_,_,rfl,ev_sound hg h x,evL_sound hg h xs⟩
def CellsAt(w:World)(b off:Nat)(vs:List Value):Prop:=∀ i v,vs[i]? = some v→w.cell? ⟨b,off+i,none⟩=some v
def RdAt(rd:Nat→Nat→Prop)(b off n:Nat):Prop:=∀ i,i<n→rd b (off+i)
theorem RelAt.cells{w:World}{rd}{b:Nat}:∀ {xs:List AV} {off:Nat},RelAt w rd b off xs→∃ vs,RelL w rd xs vs∧CellsAt w b off vs∧(∀ u∈vs,u.oneCell'=true)∧RdAt rd b off xs.length
 | [],off,h=>⟨[],by simp[RelL],fun i v hi=>by simp at hi,by simp,fun i hi=>absurd hi (by simp)⟩
 | x::xs,off,h=>by
   simp only[RelAt] at h;obtain⟨⟨v,⟨h1,h2,h3⟩,hx⟩,hr⟩:=h;obtain⟨vs,k1,k2,k3,k4⟩:=RelAt.cells hr;refine⟨v::vs,by simp only[RelL];exact⟨v,vs,rfl,hx,k1⟩,fun i u hi=>?_,fun u hu=>?_,fun i hi=>?_⟩
   ·cases i with
    | zero=>simp at hi;subst hi;exact h2
    | succ i=>
      simp at hi
      have:=k2 i u hi
      rwa [show off+1+i=off+(i+1) from by omega] at this
   ·rcases List.mem_cons.1 hu with rfl | hu
    ·exact h3
    ·exact k3 u hu
   ·cases i with
    | zero=>exact h1
    | succ i=>
      have:=k4 i (by simp at hi;omega)
      rwa [show off+1+i=off+(i+1) from by omega] at this
theorem RelAt.of_cells{w:World}{rd}{b:Nat}:∀ {xs:List AV} {vs:List Value} {off:Nat},RelL w rd xs vs→CellsAt w b off vs→(∀ u∈vs,u.oneCell'=true)→RdAt rd b off xs.length→RelAt w rd b off xs
 | [],vs,off,h,hc,h1,hr=>by simp[RelAt]
 | x::xs,vs,off,h,hc,h1,hr=>by
   simp only[RelL] at h;obtain⟨u,us,rfl,h2,h3⟩:=h;simp only[RelAt];refine⟨⟨u,⟨hr 0 (by simp),hc 0 u rfl,h1 u (by simp)⟩,h2⟩,RelAt.of_cells h3 (fun i v hi=>?_) (fun u hu=>h1 u (by simp[hu])) (fun i hi=>?_)⟩
   ·have:=hc (i+1) v (by simpa using hi)
    rwa [show off+(i+1)=off+1+i from by omega] at this
   ·have:=hr (i+1) (by simp;omega)
    rwa [show off+(i+1)=off+1+i from by omega] at this
theorem RelRows.cells{w:World}{rd}{k b:Nat}:∀ {es:List (List AV)} {off:Nat},RelRows w rd k b off es→∃ vs,RelL w rd es.flatten vs∧CellsAt w b off vs∧(∀ u∈vs,u.oneCell'=true)∧RdAt rd b off (es.length*k)∧vs.length=es.length*k
 | [],off,h=>⟨[],by simp[RelL],fun i v hi=>by simp at hi,by simp,fun i hi=>absurd hi (by simp),by simp⟩
 | e::es,off,h=>by
   simp only[RelRows] at h;obtain⟨⟨hl,h1⟩,h2⟩:=h;obtain⟨vs,k1,k2,k3,k4⟩:=RelAt.cells h1;obtain⟨us,m1,m2,m3,m4,m5⟩:=RelRows.cells h2;have hvl:vs.length=k:=by rw[← RelL.length k1,hl]
   refine⟨vs++us,by simpa using RelL.append k1 m1,fun i v hi=>?_,fun u hu=>?_,fun i hi=>?_,by simp[hvl,m5,Nat.succ_mul];omega⟩
   ·by_cases hik:i<k
    ·rw[List.getElem?_append_left (by omega)] at hi
     exact k2 i v hi
    ·rw[List.getElem?_append_right (by omega),hvl] at hi
     have:=m2 (i-k) v hi
     rwa [show off+k+(i-k)=off+i from by omega] at this
   ·rcases List.mem_append.1 hu with hu | hu
    ·exact k3 u hu
    ·exact m3 u hu
   ·by_cases hik:i<k
    ·exact k4 i (by omega)
    ·have:=m4 (i-k) (by simp[Nat.succ_mul] at hi;omega)
     rwa [show off+k+(i-k)=off+i from by omega] at this
theorem RelRows.of_cells{w:World}{rd}{k b:Nat}:∀ {es:List (List AV)} {vs:List Value} {off:Nat},(∀ e∈es,e.length=k)→RelL w rd es.flatten vs→CellsAt w b off vs→(∀ u∈vs,u.oneCell'=true)→RdAt rd b off (es.length*k)→RelRows w rd k b off es
 | [],vs,off,hl,h,hc,h1,hr=>by simp[RelRows]
 | e::es,vs,off,hl,h,hc,h1,hr=>by
   have hel:e.length=k:=hl e (by simp)
   simp only[List.flatten_cons] at h;have ht:=RelL.take h k;have hd:=RelL.drop h k;rw[List.take_left' hel] at ht;rw[List.drop_left' hel] at hd;simp only[RelRows];refine⟨⟨hel,RelAt.of_cells ht (fun i v hi=>?_) (fun u hu=>h1 u (List.mem_of_mem_take hu)) (fun i hi=>?_)⟩,RelRows.of_cells (fun e he=>hl e (by simp[he])) hd (fun i v hi=>?_) (fun u hu=>h1 u (List.mem_of_mem_drop hu)) (fun i hi=>?_)⟩
   ·rw[List.getElem?_take] at hi
    split at hi
    ·exact hc i v hi
    ·cases hi
   ·exact hr i (by simp[Nat.succ_mul];omega)
   ·rw[List.getElem?_drop] at hi;have:=hc _ v hi
    rwa [show off+(k+i)=off+k+i from by omega] at this
   ·have:=hr (k+i) (by simp[Nat.succ_mul];omega)
    rwa [show off+(k+i)=off+k+i from by omega] at this
section
variable {P:Program} {C:Cx}
theorem run_loadCells_at(w:World)(b off:Nat)(vs:List Value)(h:CellsAt w b off vs):(loadCells ⟨b,off,none⟩ vs.length).run P w=.ok vs.toArray w:=
 run_loadCells_list w ⟨b,off,none⟩ vs fun j v hj=>by rw[Addr.add_lit];exact h j v hj
theorem aPart_load(hT:TyOk P C){w:World}{rd}{t:TypeId}(hk:known C t=true){b base off:Nat}{xs:List AV}{vs:List Value}(hr:RelL w rd xs vs)(hc:CellsAt w b base vs)(h1:∀ u∈vs,u.oneCell'=true)
 {K:AV→Prop} (h:aPart C t xs off K):∃ x v,K x∧(loadVar t ⟨b,base+off,none⟩).run P w=.ok v w∧Rel w rd x v:=by
 unfold aPart at h;unfold loadVar;simp only[Sem.run_bind,run_isAgg hT hk,Result.andThen_ok]
 cases ha:(C.T t).agg with
 | true=>
   rw[ha] at h;simp only[when_iff,forceL_eq] at h;obtain⟨hl,h⟩:=h;have hl:=Nat.le_of_ble_eq_true hl;have hd:((vs.drop off).take (C.T t).size).length=(C.T t).size:=by
    rw[List.length_take,List.length_drop,← RelL.length hr];omega
   have hcc:CellsAt w b (base+off) ((vs.drop off).take (C.T t).size):=fun i v hi=>by
    rw[List.getElem?_take] at hi
    split at hi
    ·rw[List.getElem?_drop] at hi;have:=hc _ v hi
     rwa [← Nat.add_assoc] at this
    ·cases hi
   have hrun:=run_loadCells_at (P:=P) w b (base+off) _ hcc
   rw[hd] at hrun;refine⟨_,.agg ((vs.drop off).take (C.T t).size).toArray,h,by simp[run_size hT hk,hrun],?_⟩
   simp only[Rel];exact⟨_,rfl,by simpa using RelL.take (RelL.drop hr off) _,fun u hu=>h1 u (List.mem_of_mem_drop (List.mem_of_mem_take (by simpa using hu)))⟩
 | false=>
   rw[ha] at h
   cases hx:xs.drop off with
   | nil=>rw[hx] at h;exact h.elim
   | cons x r=>
     rw[hx] at h;simp only[force_eq] at h;have hg:xs[off]? = some x:=by
      have:(xs.drop off)[0]? = some x:=by rw[hx];rfl
      simpa using this
     obtain⟨v,hv,hxv⟩:=RelL.get hr off x hg;exact⟨x,v,h,by simp[hc off v hv],hxv⟩
theorem aPart_part(hT:TyOk P C){w:World}{rd}{t:TypeId}(hk:known C t=true){off:Nat}{xs:List AV}{cs:Array Value}(hr:RelL w rd xs cs.toList)(h1:∀ u∈cs.toList,u.oneCell'=true)
 {K:AV→Prop} (h:aPart C t xs off K):∃ x v,K x∧(part t cs off).run P w=.ok v w∧Rel w rd x v:=by
 unfold aPart at h;unfold part;simp only[Sem.run_bind,run_isAgg hT hk,Result.andThen_ok]
 cases ha:(C.T t).agg with
 | true=>
   rw[ha] at h;simp only[when_iff,forceL_eq] at h;obtain⟨hl,h⟩:=h;have hl:=Nat.le_of_ble_eq_true hl;refine⟨_,.agg (cs.extract off (off+(C.T t).size)),h,by simp[run_size hT hk],?_⟩
   have he:(cs.extract off (off+(C.T t).size)).toList=(cs.toList.drop off).take (C.T t).size:=by
    rw[Array.toList_extract,List.extract_eq_take_drop]
    congr 1
    omega
   simp only[Rel];refine⟨_,rfl,?_,fun u hu=>?_⟩
   ·rw[he];exact RelL.take (RelL.drop hr off) _
   ·rw[he] at hu;exact h1 u (List.mem_of_mem_drop (List.mem_of_mem_take hu))
 | false=>
   rw[ha] at h
   cases hx:xs.drop off with
   | nil=>rw[hx] at h;exact h.elim
   | cons x r=>
     rw[hx] at h;simp only[force_eq] at h;have hg:xs[off]? = some x:=by
      have:(xs.drop off)[0]? = some x:=by rw[hx];rfl
      simpa using this
     obtain⟨v,hv,hxv⟩:=RelL.get hr off x hg;have hv':cs[off]? = some v:=by simpa using hv
     exact⟨x,v,h,by simp[hv'],hxv⟩
end
theorem setRange_length(cells:List AV)(off:Nat)(xs:List AV):(setRange cells off xs).length=cells.length:=by
 induction xs generalizing cells off with
 | nil=>rfl
 | cons x xs ih=>simp only[setRange,ih,List.length_set]
theorem RelL.setRange{w:World}{rd}:∀ {xs:List AV} {vs:List Value} {cells:List AV} {cs:List Value} {off:Nat},RelL w rd xs vs→RelL w rd cells cs→off+xs.length≤cells.length→
 RelL w rd (setRange cells off xs) (cs.take off++vs++cs.drop (off+vs.length))
 | [],vs,cells,cs,off,h,hc,hl=>by simp only[RelL] at h;subst h;simpa [Aw.setRange] using hc
 | x::xs,vs,cells,cs,off,h,hc,hl=>by
   simp only[RelL] at h;obtain⟨u,us,rfl,h2,h3⟩:=h;have hlen:=RelL.length hc;have hoff:off<cs.length:=by simp at hl;omega
   have:=RelL.setRange (off:=off+1) h3 (RelL.set hc off x u h2) (by simp at hl ⊢;omega)
   simp only[Aw.setRange];have e1:(cs.set off u).take (off+1)=cs.take off++[u]:=by
    rw[List.take_add_one,List.take_set_of_le (Nat.le_refl _)]
    simp[List.getElem?_set,hoff]
   have e2:(cs.set off u).drop (off+1+us.length)=cs.drop (off+(u::us).length):=by
    rw[List.drop_set_of_lt (by omega)]
    simp
    congr 1
    omega
   rw[e1,e2] at this
   simpa using this
theorem Adv.setRow{w:World}{S:St}{b:Nat}{e:TypeId}{cells:List AV}(hS:S b=some (.obj e cells)){old cs:Array Value}(hb:w.heap[b]? = some (.cells old e (0,0)))(hsz:cs.size=old.size)(cells':List AV) :
 Adv w S (w.setRow b cs) (S.upd b (.obj e cells')):=by
 have hother:∀ x,x≠b→(w.setRow b cs).heap[x]? = w.heap[x]?:=fun x hx=>setRow_other w b x cs hx
 refine⟨rfl,rfl,rfl,by simp[World.setRow],fun x hx hn=>?_,fun x off hx hr=>?_,fun x e' n hx=>?_⟩
 ·have hne:x≠b:=St.ne_of' hn hS
  exact⟨by rw[St.upd_ne _ _ _ _ hne];exact hn,hother x hne⟩
 ·have hne:x≠b:=by rintro rfl;simp only[rdOf,hS] at hr
  refine⟨by simp only[rdOf,St.upd_ne _ _ _ _ hne];exact hr,cell_of_block (hother x hne) off⟩
 ·by_cases hne:x=b
  ·subst hne;simp only[World.shape?,hb] at hx;simp only[World.shape?,setRow_heap w x old cs e (0,0) hb]
   simpa [hsz] using hx
  ·rw[shape_of_block (hother x hne)];exact hx
theorem op_value{P:Program}{o:Oper}{a:Act}{w w':World}{v:Value}{next:Act→World→Prop}{Q:Exit→Act→World→Prop}
 (h:(execOp a.eval o).run P w=.ok (.value v) w') (hn:next (a.put o.dst v) w'):o.wp P a w next Q:=by
 unfold Oper.wp;rw[h];exact hn
theorem op_skip{P:Program}{o:Oper}{a:Act}{w w':World}{next:Act→World→Prop}{Q:Exit→Act→World→Prop}
 (h:(execOp a.eval o).run P w=.ok .skip w') (hn:next (a.put o.dst undef) w'):o.wp P a w next Q:=by
 unfold Oper.wp;rw[h];exact hn
theorem op_panic{P:Program}{o:Oper}{a:Act}{w w':World}{v:Value}{next:Act→World→Prop}{Q:Exit→Act→World→Prop}
 (h:(execOp a.eval o).run P w=.halt (.panic v) w') (hn:Q (.panic [{ v,recovered:=false }]) a w'):o.wp P a w next Q:=by
 unfold Oper.wp;rw[h];exact hn
theorem toList_eq(s t:ByteArray):(s.toList == t.toList)=decide (s=t):=by
 have h:∀ s:ByteArray,s.toList=s.data.toList:=Lib.toList_data
 rw[h,h]
 by_cases e:s=t
 ·subst e;simp
 ·have:¬ s.data.toList=t.data.toList:=fun h=>e (by
   have h':s.data=t.data:=by simpa using congrArg List.toArray h
   cases s;cases t;simp_all)
  rw[decide_eq_false e];exact beq_eq_false_iff_ne.2 this
section
variable {P:Program} {C:Cx}
theorem equal_open(xt:TypeId)(x y:Value):Op.equal xt x y=Op.equalIn (9999+1) xt x y:=rfl
theorem flatEq_sound(hT:TyOk P C){w:World}{rd}{ft:TypeId}{p q:AV}{x y:Value}(hx:Rel w rd p x)(hy:Rel w rd q y){r:Bool}(h:flatEq (C.T ft).kind p q=some r) :
 (C.T ft).agg=false∧known C ft=true∧∀ d,(Op.equalIn (d+1) ft x y).run P w=.ok r w:=by
 unfold flatEq at h
 split at h
 ·rename_i k k1 a k2 b hk
  simp only[Rel] at hx hy;subst hx hy
  split at h
  ·rename_i hkk
   have hkk:=of_decide_eq_true hkk
   subst hkk;simp only[Option.some.injEq] at h;subst h;refine⟨by simp only[TI.agg,hk],known_of hk (by simp),fun d=>run_equalIn_int w d ft k1 k a b (und_int hT hk)⟩
  ·cases h
 ·rename_i a b hk
  simp only[Rel] at hx hy;subst hx hy;simp only[Option.some.injEq] at h;subst h;refine⟨by simp only[TI.agg,hk],known_of hk (by simp),fun d=>?_⟩
  rw[run_equalIn_string w d ft a b (und_str hT hk),toList_eq]
 ·rename_i a b hk
  simp only[Rel] at hx hy;subst hx hy;simp only[Option.some.injEq] at h;subst h;exact⟨by simp only[TI.agg,hk],known_of hk (by simp),fun d=>run_equalIn_bool' w d ft a b (und_bool hT hk)⟩
 ·cases h
theorem RelL.uncons{w:World}{rd}{x:AV}{xs:List AV}{cs:Array Value}{i:Nat}(h:RelL w rd (x::xs) (cs.toList.drop i)):∃ u,cs[i]? = some u∧Rel w rd x u∧RelL w rd xs (cs.toList.drop (i+1)):=by
 simp only[RelL] at h;obtain⟨u,us,e1,h1,h2⟩:=h;have d1:cs.toList.drop (i+1)=us:=by rw[← List.drop_drop,e1];rfl
 have c1:cs[i]? = some u:=by
  have:(cs.toList.drop i)[0]? = some u:=by rw[e1];rfl
  simpa using this
 exact⟨u,c1,h1,by rw[d1];exact h2⟩
theorem aEqN_sound(hT:TyOk P C){w:World}{rd}{e:TypeId}{cs ds aa bs:Array Value}{off N:Nat}(ha:∀ j,j<N→aa[j]? = cs[off+j]?)(hb:∀ j,j<N→bs[j]? = ds[off+j]?) :
 ∀ (n j:Nat) (xs ys xs' ys':List AV) (r:Bool),j+n=N→RelL w rd xs (cs.toList.drop (off+j))→RelL w rd ys (ds.toList.drop (off+j))→aEqN (C.T e).kind n xs ys=some (r,xs',ys')→
  (∀ d,(Op.eqItems (d+1) e 1 aa bs (List.range' j n)).run P w=.ok r w)∧RelL w rd xs' (cs.toList.drop (off+N))∧RelL w rd ys' (ds.toList.drop (off+N))
 | 0,j,xs,ys,xs',ys',r,hj,hx,hy,h=>by
   simp only[aEqN,Option.some.injEq,Prod.mk.injEq] at h;obtain⟨rfl,rfl,rfl⟩:=h;have:j=N:=by omega
   subst this;exact⟨fun d=>by simp[Op.eqItems],hx,hy⟩
 | n+1,j,[],ys,xs',ys',r,hj,hx,hy,h=>by simp[aEqN] at h
 | n+1,j,x::xs,[],xs',ys',r,hj,hx,hy,h=>by simp[aEqN] at h
 | n+1,j,x::xs,y::ys,xs',ys',r,hj,hx,hy,h=>by
   simp only[aEqN] at h
   split at h
   ·rename_i a b xs'' ys'' hfl hrec
    simp only[Option.some.injEq,Prod.mk.injEq] at h;obtain⟨rfl,rfl,rfl⟩:=h;obtain⟨u,c1,r1,t1⟩:=RelL.uncons hx;obtain⟨v,c2,r2,t2⟩:=RelL.uncons hy;obtain⟨g1,g2,g3⟩:=flatEq_sound (P:=P) hT r1 r2 hfl;obtain⟨q1,q2,q3⟩:=aEqN_sound hT ha hb n (j+1) xs ys xs'' ys'' b (by omega) (by rw[← Nat.add_assoc];exact t1) (by rw[← Nat.add_assoc];exact t2) hrec
    refine⟨fun d=>?_,q2,q3⟩
    have p1:(part e aa (j*1)).run P w=.ok u w:=by simp[part,run_isAgg hT g2,g1,ha j (by omega),c1]
    have p2:(part e bs (j*1)).run P w=.ok v w:=by simp[part,run_isAgg hT g2,g1,hb j (by omega),c2]
    simp only[List.range'_succ,Op.eqItems,Sem.run_bind,p1,p2,g3 d,Result.andThen_ok]
    cases a with
    | false=>simp
    | true=>simpa using q1 d
   ·cases h
theorem aEqF_sound(hT : TyOk P C){w : World}{rd}{cs ds : Array Value} : ∀ (fs : List Field) (i : Nat) (xs ys : List AV), (fs.all fun f => f.name != "_") = true → RelL w rd xs (cs.toList.drop i) → RelL w rd ys (ds.toList.drop i) →
 ∀ {r:Bool},aEqF C i (fs.map fun f=>(f.offset,f.type)) xs ys=some r→∀ d,(Op.eqFields (d+2) cs ds fs).run P w=.ok r w
 | [],i,xs,ys,hn,hx,hy,r,h,d=>by
  have:r=true:=by
   simp only[List.map_nil] at h;unfold aEqF at h
   split at h<;>simp_all
  subst this;rfl
 | f::fs,i,xs,ys,hn,hx,hy,r,h,d=>by
   simp only[List.all_cons,Bool.and_eq_true,bne_iff_ne,ne_eq] at hn;obtain⟨hnf,hn⟩:=hn;simp only[List.map_cons] at h;unfold aEqF at h
   split at h
   ·rename_i n e hoff hk
    have hoff:=Nat.eq_of_beq_eq_true hoff
    split at h
    ·rename_i a xs' ys' hsz hN
     simp only[Bool.and_eq_true] at hsz;have hs1:=Nat.eq_of_beq_eq_true hsz.1;have hs2:=Nat.eq_of_beq_eq_true hsz.2
     split at h
     ·rename_i b hb
      simp only[Option.some.injEq] at h;subst h;have hkf:known C f.type=true:=known_of hk (by simp)
      have hagg:(C.T f.type).agg=true:=by simp only[TI.agg,hk]
      have p1:(part f.type cs f.offset).run P w=.ok (.agg (cs.extract f.offset (f.offset+(C.T f.type).size))) w:=by simp[part,run_isAgg hT hkf,hagg,run_size hT hkf]
      have p2:(part f.type ds f.offset).run P w=.ok (.agg (ds.extract f.offset (f.offset+(C.T f.type).size))) w:=by simp[part,run_isAgg hT hkf,hagg,run_size hT hkf]
      obtain⟨ie,hie,hce⟩:∃ ie,P.info? e=some ie∧P.cellsOf e=1:=by
       rcases hT.1 e with h1 | h1
       ·obtain⟨h1,_⟩:=h1
        cases hi:P.info? e with
        | none=>rw[hi] at h1;cases h1
        | some ie=>
          rw[hi] at h1;simp only[Option.map_some,Option.some.injEq,Prod.mk.injEq] at h1;exact⟨ie,rfl,by simp[Program.cellsOf,hi,h1.1,hs2]⟩
       ·rw[h1] at hs2;cases hs2
      have hext:∀ (cs:Array Value) (j:Nat),j<n→(cs.extract i (i+n))[j]? = cs[i+j]?:=fun cs j hj=>by
       rw[Array.getElem?_extract]
       by_cases hh:i+j<cs.size
       ·rw[if_pos (by omega)]
       ·rw[if_neg (by omega),Array.getElem?_eq_none (by omega)]
      obtain⟨q1,q2,q3⟩:=aEqN_sound (P:=P) hT (cs:=cs) (ds:=ds) (aa:=cs.extract i (i+n)) (bs:=ds.extract i (i+n)) (off:=i) (N:=n) (hext cs) (hext ds) n 0 xs ys xs' ys' a (by omega) (by simpa using hx) (by simpa using hy) hN
      have rest:=aEqF_sound hT fs (i+n) xs' ys' hn q2 q3 hb d
      have ge:(Op.equalIn (d+2) f.type (.agg (cs.extract i (i+n))) (.agg (ds.extract i (i+n)))).run P w=.ok a w:=by
       rw[run_equalIn_array w (d+1) _ _ (und_array hT hk) hie,hce,List.range_eq_range'];exact q1 d
      rw[hoff,hs1] at p1 p2;simp only[Op.eqFields,hnf,ne_eq,not_false_eq_true,if_true,Sem.run_bind,hoff,p1,p2,ge,Result.andThen_ok]
      cases a with
      | false=>simp
      | true=>simpa using rest
     ·cases h
    ·cases h
   ·rename_i k hoff hnot
    have hoff:=Nat.eq_of_beq_eq_true hoff
    split at h
    ·rename_i x xs1 y ys1
     split at h
     ·rename_i a hfl
      split at h
      ·rename_i b hb
       simp only[Option.some.injEq] at h;subst h;obtain⟨u,c1,hx1,hx2⟩:=RelL.uncons hx;obtain⟨v,c2,hy1,hy2⟩:=RelL.uncons hy;obtain⟨g1,g2,g3⟩:=flatEq_sound (P:=P) hT hx1 hy1 hfl;have p1:(part f.type cs f.offset).run P w=.ok u w:=by simp[part,run_isAgg hT g2,g1,hoff,c1]
       have p2:(part f.type ds f.offset).run P w=.ok v w:=by simp[part,run_isAgg hT g2,g1,hoff,c2]
       have rest:=aEqF_sound hT fs (i+1) xs1 ys1 hn hx2 hy2 hb d
       simp only[Op.eqFields,hnf,ne_eq,not_false_eq_true,if_true,Sem.run_bind,p1,p2,g3 (d+1),Result.andThen_ok]
       cases a with
       | false=>simp
       | true=>simpa using rest
      ·cases h
     ·cases h
    ·cases h
   ·cases h
theorem aEq_sound(hT:TyOk P C){w:World}{rd}{xt:TypeId}{p q:AV}{x y:Value}(hx:Rel w rd p x)(hy:Rel w rd q y){r:Bool}(hr:aEq C xt p q=some r) :
 (Op.equal xt x y).run P w=.ok r w∧(∀ op ox oy,(eqGuard op xt ox oy x y).run P w=.ok () w)∧
   (∀ op,op=.eql→binOp op xt x y=do pure (.bool (← Op.equal xt x y)))∧(∀ op,op=.neq→binOp op xt x y=do pure (.bool (!(← Op.equal xt x y)))):=by
 have hgd:∀ (op:BinOp) (ox oy:Operand),(¬ (x=.nilIface∧y=.nilIface))→(∀ cs,x≠.agg cs)→(eqGuard op xt ox oy x y).run P w=.ok () w:=fun op ox oy h1 h2=>by
  unfold eqGuard
  cases op<;>simp<;>cases x<;>simp at h2 ⊢<;>cases y<;>simp at h1 ⊢
 by_cases hs:∃ fs xs ys,(C.T xt).kind=.strct fs∧p=.ag xs∧q=.ag ys
 ·obtain⟨fs,xs,ys,hk,rfl,rfl⟩:=hs;unfold aEq at hr;rw[hk] at hr;dsimp only at hr
  split at hr
  ·rename_i hE
   have hok:=hT.2 xt hE
   obtain⟨fa,hu,hfs⟩:=und_struct hT hk;unfold EqOkB at hok;rw[hu] at hok;simp only[Bool.and_eq_true,Bool.not_eq_true'] at hok;obtain⟨⟨ho1,ho2⟩,ho3⟩:=hok;simp only[Rel] at hx hy;obtain⟨cs,rfl,hx1,_⟩:=hx;obtain⟨ds,rfl,hy1,_⟩:=hy;have hfo:P.fieldsOf xt=fa:=by simp only[Program.fieldsOf,hu]
   have hrun:(Op.equal xt (.agg cs) (.agg ds)).run P w=.ok r w:=by
    rw[equal_open,run_equalIn_struct w _ xt cs ds (by rw[hfo];exact hu) ho1,hfo]
    exact aEqF_sound hT fa.toList 0 xs ys ho3 (by simpa using hx1) (by simpa using hy1) (by rw[hfs];exact hr) 9997
   exact⟨hrun,fun op ox oy=>run_eqGuard_agg w op xt ox oy cs ds ho2,fun op ho=>by subst ho;rfl,fun op ho=>by subst ho;rfl⟩
  ·cases hr
 unfold aEq at hr
 split at hr
 ·rename_i hk;exact absurd ⟨_,_,_,hk,rfl,rfl⟩ hs
 all_goals simp only[Option.some.injEq,reduceCtorEq] at hr
 all_goals (rename_i hk;subst hr;simp only[Rel,Sh.mayNil,Bool.false_eq_true,reduceCtorEq,false_and,false_or,true_and] at hx hy)
 all_goals
  first
   | (have hu:=und_bool hT hk)
   | (have hu:=und_ptr hT hk)
   | (have hu:=und_slice hT hk)
   | (obtain⟨_,_,_,hu⟩:=und_fn hT hk)
   | (obtain⟨_,hu⟩:=und_iface hT hk)
 all_goals
  first
   | (obtain⟨_,_,_,rfl,_⟩:=hx)
   | (obtain⟨_,_,rfl,_⟩:=hx)
   | (obtain⟨_,rfl,_⟩:=hx)
   | (subst hx)
 all_goals
  first
   | (obtain⟨_,_,_,rfl,_⟩:=hy)
   | (obtain⟨_,_,rfl,_⟩:=hy)
   | (obtain⟨_,rfl,_⟩:=hy)
   | (subst hy)
 all_goals
  refine⟨?_,fun op ox oy=>hgd op ox oy (by simp) (by simp),fun op ho=>by subst ho;rfl,fun op ho=>by subst ho;rfl⟩
  rw[equal_open];generalize 9999=d
  simp[Op.equalIn,run_underlying hu]
theorem aBin_sound(hT:TyOk P C){w:World}{rd}{op:BinOp}{xt:TypeId}{ρ:Operand→Value}{x y:Operand}{p q:AV}(hx:Rel w rd p (ρ x))(hy:Rel w rd q (ρ y)){K:AV→Prop}(h:aBin C op xt x y p q K) :
 ∃ z v,K z∧Rel w rd z v∧(do eqGuard op xt x y (ρ x) (ρ y);binOp op xt (ρ x) (ρ y):Sem Value).run P w=.ok v w:=by
 unfold aBin at h
 split at h
 ·-- ints
  rename_i k m k' n
  simp only[Rel] at hx hy;rw[hx,hy];have hgd:∀ op,(eqGuard op xt x y (.int k m) (.int k' n)).run P w=.ok () w:=fun op=>by
   unfold eqGuard
   cases op<;>simp
  split at h
  ·refine⟨_,.int k (k.wrap (m*2 ^ (min n.toNat k.bits))),h.2,by simp[Rel],?_⟩
   have:=h.1
   simp[hgd,binOp,Op.shift,show ¬ n<0 by omega]
  ·refine⟨_,.int k (m.fdiv (2 ^ (min n.toNat k.bits))),h.2,by simp[Rel],?_⟩
   have:=h.1
   simp[hgd,binOp,Op.shift,show ¬ n<0 by omega]
  ·rename_i hs1 hs2
   rw[when_iff] at h;obtain⟨hk,h⟩:=h;have hk:k=k':=of_decide_eq_true hk;subst hk;unfold aIntOp at h
   cases op<;>simp only at h<;>first
    | exact h.elim
    | exact absurd rfl hs1
    | exact absurd rfl hs2
    | exact⟨_,_,h,by simp only[Rel];rfl,by simp[hgd,binOp,Op.intArith,Op.intCmp]⟩
    | exact⟨_,_,h.2,by simp only[Rel];rfl,by simp[hgd,binOp,Op.intDiv,h.1]⟩
 ·-- strings
  rename_i s t
  simp only[Rel] at hx hy;rw[hx,hy];have hgd:∀ op,(eqGuard op xt x y (.string s) (.string t)).run P w=.ok () w:=fun op=>by
   unfold eqGuard
   cases op<;>simp
  unfold aStrOp at h
  cases op<;>simp only at h
  case add=>
   refine⟨_,.string (s++t),h.2,by simp[Rel],?_⟩
   have h1:=h.1
   have:¬ ((s.size+t.size:Nat):Int) > IntKind.i64.max:=by
    show ¬ ((s.size+t.size:Nat):Int) > 9223372036854775807
    omega
   simp only[Sem.run_bind,hgd,Result.andThen_ok,binOp,Op.stringOp];rw[if_neg this];rfl
  case eql=>
   refine⟨_,.bool (decide (s=t)),h,by simp only[Rel],?_⟩
   simp only[Sem.run_bind,hgd,Result.andThen_ok,binOp,Op.stringOp,toList_eq];rfl
  case neq=>
   refine⟨_,.bool (!decide (s=t)),h,by simp only[Rel],?_⟩
   simp only[Sem.run_bind,hgd,Result.andThen_ok,binOp,Op.stringOp,toList_eq];rfl
 ·-- nil against nil
  simp only[Rel] at hx hy;rw[hx,hy];have hc:∀ op,(isConst x || isConst y)=true→(eqGuard op xt x y .nilIface .nilIface).run P w=.ok () w:=fun op hc=>by
   unfold eqGuard
   cases x<;>cases y<;>simp[isConst] at hc<;>cases op<;>simp
  split at h
  ·rename_i hk
   obtain⟨ms,hu⟩:=und_iface hT hk;rw[when_iff] at h;refine⟨_,.bool true,h.2,by simp only[Rel],?_⟩
   have he:(Op.equal xt .nilIface .nilIface).run P w=.ok true w:=by
    rw[equal_open];generalize 9999=d;simp[Op.equalIn,run_underlying hu]
   simp[hc _ h.1,binOp,he]
  ·rename_i hk
   obtain⟨ms,hu⟩:=und_iface hT hk;rw[when_iff] at h;refine⟨_,.bool false,h.2,by simp only[Rel],?_⟩
   have he:(Op.equal xt .nilIface .nilIface).run P w=.ok true w:=by
    rw[equal_open];generalize 9999=d;simp[Op.equalIn,run_underlying hu]
   simp[hc _ h.1,binOp,he]
  ·exact h.elim
 ·rename_i hn1 hn2 hn3
  split at h
  ·split at h
   ·rename_i r hr
    obtain⟨k1,k2,k3,k4⟩:=aEq_sound (P:=P) hT hx hy hr;refine⟨_,.bool r,h,by simp only[Rel],?_⟩
    simp[k2,k3 _ rfl,k1]
   ·exact h.elim
  ·split at h
   ·rename_i r hr
    obtain⟨k1,k2,k3,k4⟩:=aEq_sound (P:=P) hT hx hy hr;refine⟨_,.bool (!r),h,by simp only[Rel],?_⟩
    simp[k2,k4 _ rfl,k1]
   ·exact h.elim
  ·exact h.elim
theorem nilTest_bin{op:BinOp}{xt:TypeId}{x y:Operand}{p q:AV}{r:Bool×List (List AV)}(hr:nilTest C op xt p q=some r){K:AV→Prop}:¬ aBin C op xt x y p q K:=by
 unfold nilTest at hr
 split at hr
 ·rename_i hk
  intro h;unfold aBin aEq at h;rw[hk] at h
  cases op<;>exact h
 ·rename_i hk
  intro h;unfold aBin aEq at h;rw[hk] at h
  cases op<;>exact h
 ·cases hr
theorem nilTest_sound(hT:TyOk P C){w:World}{rd}{op:BinOp}{xt:TypeId}{ρ:Operand→Value}{x y:Operand}{p q:AV}(hx:Rel w rd p (ρ x))(hy:Rel w rd q (ρ y)){pos:Bool}{es:List (List AV)}(hr:nilTest C op xt p q=some (pos,es)) :
 ∃ c:Bool,(es≠[]→c=!pos)∧(do eqGuard op xt x y (ρ x) (ρ y);binOp op xt (ρ x) (ρ y):Sem Value).run P w=.ok (.bool c) w:=by
 have main:∀ (e:TypeId) (sh:Sh) (k:Nat),(C.T xt).kind=.slice e→sh.mayNil=true→Rel w rd (.sl sh k es) (ρ x)→Rel w rd .nils (ρ y)→(op=.eql∧pos=true)∨(op=.neq∧pos=false)→
  ∃ c:Bool,(es≠[]→c=!pos)∧(do eqGuard op xt x y (ρ x) (ρ y);binOp op xt (ρ x) (ρ y):Sem Value).run P w=.ok (.bool c) w:=by
  intro e sh k hk hsh h1 h2 hop;simp only[Rel] at h1
  rcases h1 with ⟨_,he,hv⟩ | ⟨b,off,cap,hv,m2,m3,m4,m5⟩
  ·rcases hv.cases with hv | ⟨a,hv⟩
   ·have hb:aBin C op xt x y .nils .nils (·=.bool pos):=by
     unfold aBin aEq;rw[hk]
     rcases hop with ⟨rfl,rfl⟩ | ⟨rfl,rfl⟩<;>rfl
    obtain⟨z,v,rfl,k2,k3⟩:=aBin_sound (P:=P) hT (ρ:=ρ) (by simp only[Rel];exact hv) h2 hb
    simp only[Rel] at k2;subst k2;exact⟨pos,fun h=>absurd he h,k3⟩
   ·have h2':ρ y=.slice none 0 0:=by simpa only[Rel] using h2
    have hu:=und_slice hT hk
    have hq:(Op.equal xt (ρ x) (ρ y)).run P w=.ok false w:=by
     rw[hv,h2',equal_open];generalize 9999=d
     simp[Op.equalIn,run_underlying hu]
    have hg:∀ op,(eqGuard op xt x y (ρ x) (ρ y)).run P w=.ok () w:=fun op=>by
     rw[hv,h2'];unfold eqGuard
     cases op<;>simp
    refine⟨!pos,fun h=>absurd he h,?_⟩
    rw[hv,h2'] at hq hg ⊢
    rcases hop with ⟨rfl,rfl⟩ | ⟨rfl,rfl⟩
    ·rw[show binOp .eql xt (.slice (some a) 0 0) (.slice none 0 0)=(do pure (.bool (← Op.equal xt (.slice (some a) 0 0) (.slice none 0 0)))) from rfl]
     simp[hg,hq]
    ·rw[show binOp .neq xt (.slice (some a) 0 0) (.slice none 0 0)=(do pure (.bool (!(← Op.equal xt (.slice (some a) 0 0) (.slice none 0 0))))) from rfl]
     simp[hg,hq]
  ·have hb:aBin C op xt x y (.sl .nn k es) .nils (·=.bool (!pos)):=by
    unfold aBin aEq;rw[hk]
    rcases hop with ⟨rfl,rfl⟩ | ⟨rfl,rfl⟩<;>rfl
   obtain⟨z,v,rfl,k2,k3⟩:=aBin_sound (P:=P) hT (ρ:=ρ) (by simp only[Rel];exact .inr ⟨b,off,cap,hv,m2,m3,trivial,m5⟩) h2 hb
   simp only[Rel] at k2;subst k2;exact⟨!pos,fun _=>rfl,k3⟩
 unfold nilTest at hr
 split at hr
 ·rename_i e k es' hk
  have:es'=es∧((op=.eql∧pos=true)∨(op=.neq∧pos=false)):=by
   cases op<;>simp at hr<;>simp[hr.1,hr.2]
  obtain⟨rfl,ho⟩:=this;exact main e .any k hk rfl hx hy ho
 ·rename_i e b k es' hk
  have:es'=es∧((op=.eql∧pos=true)∨(op=.neq∧pos=false)):=by
   cases op<;>simp at hr<;>simp[hr.1,hr.2]
  obtain⟨rfl,ho⟩:=this;exact main e (.acc b) k hk rfl hx hy ho
 ·cases hr
end
section
variable {P:Program} {C:Cx}
theorem aUn_sound{w:World}{rd}{op:UnOp}{p:AV}{x:Value}(hx:Rel w rd p x){K:AV→Prop}(h:aUn op p K):∃ z v,K z∧Rel w rd z v∧(Op.unary op x).run P w=.ok v w:=by
 unfold aUn at h
 split at h
 ·simp only[Rel] at hx;subst hx;exact⟨_,_,h,by simp only[Rel];rfl,by simp[Op.unary,Op.intArith]⟩
 ·simp only[Rel] at hx;subst hx;exact⟨_,_,h,by simp only[Rel];rfl,by simp[Op.unary]⟩
 ·exact h.elim
theorem isU8_of(hT:TyOk P C){te:TypeId}(h:isU8 C te=true):P.underlying te=some (.int .u8)∧(C.T te).size=1:=by
 unfold isU8 at h
 split at h
 ·rename_i hk
  exact⟨und_int hT hk,(Nat.eq_of_beq_eq_true h).symm⟩
 ·cases h
theorem RelL_bytes(w:World)(rd):∀ l:List UInt8,RelL w rd (l.map fun b=>[AV.int .u8 (b.toNat:Int)]).flatten (l.map fun b=>Value.int .u8 b.toNat)
 | []=>by simp[RelL]
 | b::l=>by
   have:=RelL_bytes w rd l
   simp only[List.map_cons,List.flatten_cons,List.cons_append,List.nil_append,RelL,Rel];exact⟨_,_,rfl,rfl,this⟩
theorem RelL_bytes_inv(w:World)(rd):∀ (l:List UInt8) (vs:List Value),RelL w rd (l.map fun b=>[AV.int .u8 (b.toNat:Int)]).flatten vs→vs=l.map fun b=>Value.int .u8 b.toNat
 | [],vs,h=>by simpa [RelL] using h
 | b::l,vs,h=>by
   simp only[List.map_cons,List.flatten_cons,List.cons_append,List.nil_append,RelL,Rel] at h;obtain⟨u,us,rfl,rfl,h2⟩:=h;rw[RelL_bytes_inv w rd l us h2];rfl
theorem rowsB_len(s:ByteArray):(rowsB s).length=s.size:=by
 unfold rowsB;rw[List.length_map,Array.length_toList];rfl
theorem rowsB_one(s:ByteArray):∀ r∈rowsB s,r.length=1:=by
 intro r hr;unfold rowsB at hr;obtain⟨b,_,rfl⟩:=List.mem_map.1 hr;rfl
theorem aConv_sound(hT:TyOk P C){w:World}{S:St}(hg:Good C w S){src dst:TypeId}{p:AV}{x:Value}(hx:Rel w (rdOf S) p x){K:AV→Prop}(h:aConv C src dst p S K) :
 ∃ z v w',K z∧Rel w' (rdOf S) z v∧Good C w' S∧Adv w S w' S∧(convert src dst x).run P w=.ok v w':=by
 unfold aConv at h
 split at h
 ·rename_i h1 h2
  simp only[Rel] at hx;subst hx;exact⟨_,_,w,h,by simp only[Rel];rfl,hg,Adv.refl w S,by simp[convert,run_underlying (und_int hT h1),run_underlying (und_int hT h2),Conv.intToInt]⟩
 ·rename_i h1 h2
  simp only[Rel] at hx;subst hx;exact⟨_,_,w,h,by simp only[Rel];rfl,hg,Adv.refl w S,by simp[convert,run_underlying (und_str hT h1),run_underlying (und_str hT h2)]⟩
 ·rename_i te s h1 h2
  rw[when_iff] at h;obtain⟨hu8,hlim,h⟩:=h;obtain⟨hu,hsz⟩:=isU8_of hT hu8;simp only[Rel] at hx;subst hx;have hrun:=run_bytes_of_string (P:=P) w src dst te s (und_str hT h1) (und_slice hT h2) hu;have hge:=grownCap_ge w s.size 0 te;have hcm:=grownCap_le_maxLen w s.size 0 te (by simp only[maxLen];omega)
  generalize hcap:grownCap w s.size 0 te=cap at *;have hadv:Adv w S (w.drew.alloc (.cells (bytesRow s cap) te ((bytesRow s cap).size,(bytesRow s cap).size+1))) S:=(Adv.refl w S).drew.trans (Adv.alloc (w:=w.drew) _ hg.1.fresh);have hb:(w.drew.alloc (.cells (bytesRow s cap) te ((bytesRow s cap).size,(bytesRow s cap).size+1))).heap[w.heap.size]? = some (.cells (bytesRow s cap) te ((bytesRow s cap).size,(bytesRow s cap).size+1)):=heap_alloc_new w.drew _;refine⟨_,_,_,h,?_,hg.mk (hg.1.drew.alloc _) hadv,hadv,hrun⟩;simp only[Rel];refine .inr ⟨w.heap.size,0,cap,by rw[rowsB_len],by rw[rowsB_len];exact hge,hcm,trivial,?_⟩
  refine RelRows.of_cells (rowsB_one s) (RelL_bytes _ _ _) (fun i v hv=>?_) (fun u hu=>?_) (fun i hi=>?_)
  ·rw[Nat.zero_add,cell_of_row _ _ i _ te _ hb];have hi:i<(s.data.toList.map fun b=>Value.int .u8 (b.toNat:Int)).length:=by
    rcases Nat.lt_or_ge i (s.data.toList.map fun b=>Value.int .u8 (b.toNat:Int)).length with h | h
    ·exact h
    ·rw[List.getElem?_eq_none h] at hv;cases hv
   unfold bytesRow;rw[Array.getElem?_append_left (by simpa using hi)]
   simpa using hv
  ·obtain⟨_,_,rfl⟩:=List.mem_map.1 hu;rfl
  ·simp only[rdOf,hg.1.fresh]
 ·rename_i te sh k es h1 h2
  rw[when_iff,Bool.and_eq_true] at h;obtain⟨⟨hu8,hk1⟩,s,rfl,h⟩:=h;have hk1:=Nat.eq_of_beq_eq_true hk1;subst hk1;obtain⟨hu,hsz⟩:=isU8_of hT hu8;refine⟨_,.string s,w,h,by simp only[Rel],hg,Adv.refl w S,?_⟩
  simp only[Rel] at hx
  rcases hx with ⟨_,he,hz⟩ | ⟨b,off,cap,rfl,k1,k2,k3,k4⟩
  ·obtain⟨ap,rfl⟩:=hz.slice;have hs0:s=ByteArray.empty:=by
    have:=congrArg List.length he
    rw[rowsB_len] at this;have h0:s.data.size=0:=this
    cases s with
    | mk d=>exact congrArg ByteArray.mk (Array.eq_empty_of_size_eq_zero h0)
   rw[run_convert_bytes_string w src dst te ap 0 0 (und_slice hT h1) hu (und_str hT h2),hs0]
   cases ap with
   | none=>rfl
   | some a=>simp[Conv.bytesToString];rfl
  ·obtain⟨vs,m1,m2,m3,m4,m5⟩:=RelRows.cells k4;have hvs:=RelL_bytes_inv _ _ _ _ m1;have hrun:=run_convert_bytes_back (P:=P) w src dst te ⟨b,off,none⟩ cap s.data.toList (und_slice hT h1) hu (und_str hT h2) (fun j hj=>by
    rw[Addr.add_lit];refine m2 j _ ?_;rw[hvs,List.getElem?_map,List.getElem?_eq_getElem hj];rfl)
   rw[rowsB_len];have:s.data.toList.length=s.size:=by rw[Array.length_toList];rfl
   rw[this] at hrun
   simpa using hrun
 ·rename_i te h1 h2
  rw[when_iff] at h;obtain⟨hu8,h⟩:=h;obtain⟨hu,hsz⟩:=isU8_of hT hu8;simp only[Rel] at hx;subst hx;refine⟨_,.string ByteArray.empty,w,h,by simp only[Rel],hg,Adv.refl w S,?_⟩
  rw[run_convert_bytes_string w src dst te none 0 0 (und_slice hT h1) hu (und_str hT h2)];rfl
 ·exact h.elim
theorem fieldOf_some(hT:TyOk P C){t:TypeId}{f off:Nat}{ft:TypeId}(h:fieldOf C t f=some (off,ft)):∃ fa fld,P.underlying t=some (.struct fa)∧fa[f]? = some fld∧fld.offset=off∧fld.type=ft:=by
 unfold fieldOf at h
 split at h
 ·rename_i fs hk
  obtain⟨fa,hu,he⟩:=und_struct hT hk;rw[← he] at h;simp only[List.getElem?_map,Option.map_eq_some_iff,Prod.mk.injEq] at h;obtain⟨fld,h1,h2,h3⟩:=h;exact⟨fa,fld,hu,by simpa using h1,h2,h3⟩
 ·cases h
theorem aFieldAddr_sound(hT:TyOk P C){w:World}{rd}{t:TypeId}{f:Nat}{p:AV}{x:Value}(hx:Rel w rd p x){K:AV→Prop}(h:aFieldAddr C t p f K):∃ z v,K z∧Rel w rd z v∧(Instr.fieldAt t x f).run P w=.ok v w:=by
 unfold aFieldAddr at h
 split at h
 ·rename_i off ft hf
  obtain⟨fa,fld,hu,hfa,rfl,rfl⟩:=fieldOf_some hT hf;rw[when_iff] at h;obtain⟨hk,h⟩:=h;simp only[Bool.and_eq_true] at hk;obtain⟨hk,hp⟩:=hk;have hpos:(C.T fld.type).size≠0:=by
   have:=Nat.le_of_ble_eq_true hp
   omega
  split at h
  ·simp only[Rel] at hx;subst hx;refine⟨_,_,h,by simp only[Rel];rfl,?_⟩
   simp[Instr.fieldAt,run_underlying hu,hfa,Instr.sureAddr,fieldPlace,run_size hT hk,hpos,Addr.add_lit]
  ·simp only[Rel] at hx;obtain⟨b,o,rfl,hr⟩:=hx;refine⟨_,.pointer (some ⟨b,o+fld.offset,none⟩),h,?_,?_⟩
   ·simp only[Rel];exact⟨b,o+fld.offset,rfl,RelAt.drop hr _⟩
   ·simp[Instr.fieldAt,run_underlying hu,hfa,Instr.sureAddr,fieldPlace,run_size hT hk,hpos,Addr.add_lit]
  ·exact h.elim
 ·exact h.elim
theorem aField_sound(hT:TyOk P C){w:World}{rd}{t:TypeId}{f:Nat}{p:AV}{x:Value}(hx:Rel w rd p x){K:AV→Prop}(h:aField C t p f K):∃ z v,K z∧Rel w rd z v∧(Instr.field t x f).run P w=.ok v w:=by
 unfold aField at h
 split at h
 ·rename_i off ft xs hf
  obtain⟨fa,fld,hu,hfa,rfl,rfl⟩:=fieldOf_some hT hf;rw[when_iff] at h;obtain⟨hk,h⟩:=h;simp only[Rel] at hx;obtain⟨cs,rfl,h1,h2⟩:=hx;obtain⟨z,v,k1,k2,k3⟩:=aPart_part hT hk h1 h2 h;exact⟨z,v,k1,k3,by simp[Instr.field,run_underlying hu,hfa,asAgg,k2]⟩
 ·exact h.elim
theorem aIndexAddr_sound(hT:TyOk P C){w:World}{rd}{t:TypeId}{p q:AV}{x y:Value}(hx:Rel w rd p x)(hy:Rel w rd q y){K:AV→Prop}(h:aIndexAddr C t p q K):∃ z v,K z∧Rel w rd z v∧(Instr.indexAt t x y).run P w=.ok v w:=by
 unfold aIndexAddr at h
 split at h
 ·rename_i e sh k es kk n hk
  rw[when_iff] at h;obtain⟨hke,r,⟨h0,hr⟩,h⟩:=h;simp only[Bool.and_eq_true] at hke;obtain⟨hke,hsz⟩:=hke;have hsz:=Nat.eq_of_beq_eq_true hsz;simp only[Rel] at hx hy;subst hy;have hlt:n.toNat<es.length:=by
   rcases Nat.lt_or_ge n.toNat es.length with h' | h'
   ·exact h'
   ·rw[List.getElem?_eq_none h'] at hr;cases hr
  rcases hx with ⟨_,rfl,_⟩ | ⟨b,off,cap,rfl,h1,h2,h3,h4⟩
  ·simp at hlt
  ·have hrow:=RelRows.get h4 n.toNat r hr
   refine⟨_,.pointer (some ⟨b,off+n.toNat*k,none⟩),h,?_,?_⟩
   ·simp only[Rel];exact⟨b,_,rfl,hrow.2⟩
   ·have h0n:0≤n∧n<(es.length:Int):=⟨h0,by omega⟩
    simp[Instr.indexAt,asIntOf,run_underlying (und_slice hT hk),h0n,run_size hT hke,hsz,Addr.add_lit]
 ·rename_i e b off m cap kk n hk
  rw[when_iff] at h;obtain⟨hke,h0,h⟩:=h;simp only[Rel] at hx hy;subst hx;subst hy;refine⟨_,.pointer (some ⟨b,off+n.toNat*(C.T e).size,none⟩),h,by simp only[Rel],?_⟩
  simp[Instr.indexAt,asIntOf,run_underlying (und_slice hT hk),h0,run_size hT hke,Addr.add_lit]
 ·rename_i m e b off kk n hk
  rw[when_iff] at h;obtain⟨hke,h0,h⟩:=h;simp only[Rel] at hx hy;subst hx;subst hy;refine⟨_,.pointer (some ⟨b,off+n.toNat*(C.T e).size,none⟩),h,by simp only[Rel],?_⟩
  simp[Instr.indexAt,asIntOf,run_underlying (und_array hT hk),h0,run_size hT hke,Addr.add_lit,Instr.sureAddr]
 ·exact h.elim
theorem aIndex_sound(hT:TyOk P C){w:World}{rd}{t:TypeId}{p q:AV}{x y:Value}(hx:Rel w rd p x)(hy:Rel w rd q y){K:AV→Prop}(h:aIndex C t p q K):∃ z v,K z∧Rel w rd z v∧(Instr.index t x y).run P w=.ok v w:=by
 unfold aIndex at h
 split at h
 ·rename_i s kk n hk
  obtain⟨⟨h0,h1⟩,h⟩:=h;simp only[Rel] at hx hy;subst hx;subst hy;refine⟨_,.int .u8 (byteAt s n.toNat),h,by simp only[Rel],?_⟩
  have hlt:n.toNat<s.size:=by omega
  have hg:s[n.toNat]? = some s[n.toNat]:=by simp[hlt]
  have hb:((s[n.toNat].toNat:Nat):Int)=byteAt s n.toNat:=by
   unfold byteAt;have hl:n.toNat<s.data.toList.length:=by simpa using hlt
   rw[List.getD_eq_getElem?_getD,List.getElem?_eq_getElem hl];rfl
  simp[Instr.index,asIntOf,run_underlying (und_str hT hk),h0,hg,hb]
 ·exact h.elim
theorem run_sliceBounds(w:World){S0:Bool}{len cap:Nat}{lo hi:Option Value}{l h:Int}
 (hl:lo=none∧l=0∨∃ k,lo=some (.int k l)) (hh:hi=none∧h=len∨∃ k,hi=some (.int k h)) (h0:0≤l) (h1:l≤h) (h2:h≤cap) :
 (Instr.sliceBounds S0 len cap lo hi none).run P w=.ok (l.toNat,h.toNat,cap) w:=by
 have hh0:0≤h:=by omega
 have hlh:l≤(h.toNat:Int):=by omega
 rcases hl with ⟨rfl,rfl⟩ | ⟨k,rfl⟩<;>rcases hh with ⟨rfl,rfl⟩ | ⟨k',rfl⟩<;>simp[Instr.sliceBounds,Instr.sliceBound,asIntOf,h0,h2,hlh,hh0]
 all_goals (try omega)
theorem optN_sound{w:World}{rd}{d:Nat}{p:Option AV}{x:Option Value}(h:p=none∧x=none∨∃ a v,p=some a∧x=some v∧Rel w rd a v){l:Int}(hl:optN d p=some l) :
 x=none∧l=d∨∃ k,x=some (.int k l):=by
 rcases h with ⟨rfl,rfl⟩ | ⟨a,v,rfl,rfl,hr⟩
 ·simp only[optN,Option.some.injEq] at hl;exact .inl ⟨rfl,hl.symm⟩
 ·cases a<;>simp only[optN,Option.some.injEq,reduceCtorEq] at hl
  subst hl;simp only[Rel] at hr;exact .inr ⟨_,by rw[hr]⟩
def OptRel(w:World)(rd:Nat→Nat→Prop)(p:Option AV)(x:Option Value):Prop:=p=none∧x=none∨∃ a v,p=some a∧x=some v∧Rel w rd a v
theorem aSlice_sound(hT:TyOk P C){w:World}{rd}{t:TypeId}{p:AV}{x:Value}(hx:Rel w rd p x){lo hi mx:Option AV}{vlo vhi vmx:Option Value}(hlo:OptRel w rd lo vlo)(hhi:OptRel w rd hi vhi)(hmx:OptRel w rd mx vmx)
 {K:AV→Prop} (h:aSlice C t p lo hi mx K):∃ z v,K z∧Rel w rd z v∧(Instr.sliceAt t x vlo vhi vmx).run P w=.ok v w:=by
 unfold aSlice at h
 split at h
 ·-- a string
  rename_i s hk
  have hu:=und_str hT hk
  simp only[Rel] at hx;subst hx;obtain rfl:vmx=none:=by rcases hmx with ⟨_,rfl⟩ | ⟨_,_,h,_⟩;rfl;cases h
  split at h
  ·rename_i l h' hl hh
   obtain⟨⟨h0,h1,h2⟩,h⟩:=h;have hb:=run_sliceBounds (P:=P) (S0:=false) (len:=s.size) (cap:=s.size) w (optN_sound hlo hl) (optN_sound hhi hh) h0 h1 h2;exact⟨_,_,h,by simp only[Rel];rfl,by simp[Instr.sliceAt,Instr.slice,run_underlying hu,hb]⟩
  ·exact h.elim
 ·-- a slice
  rename_i e sh k es hk
  have hu:=und_slice hT hk
  obtain rfl:vmx=none:=by rcases hmx with ⟨_,rfl⟩ | ⟨_,_,h,_⟩;rfl;cases h
  rw[when_iff] at h;obtain⟨hke,h⟩:=h;simp only[Bool.and_eq_true] at hke;obtain⟨hke,hsz⟩:=hke;have hsz:=Nat.eq_of_beq_eq_true hsz
  split at h
  ·rename_i l h' hl hh
   obtain⟨⟨h0,h1,h2⟩,h⟩:=h;simp only[Rel] at hx;have elen:((es.take h'.toNat).drop l.toNat).length=h'.toNat-l.toNat:=by
    rw[List.length_drop,List.length_take];omega
   rcases hx with ⟨hmn,rfl,hz⟩ | ⟨b,off,cap,rfl,k1,k2,k3,k4⟩
   ·have hzl:NilV sh.less x:=by
     rcases hz with hz | ⟨rfl,hz⟩
     ·exact .inl hz
     ·exact .inr ⟨rfl,hz⟩
    obtain⟨ap,rfl⟩:=hz.slice;have hb:=run_sliceBounds (P:=P) (S0:=true) (len:=0) (cap:=0) w (optN_sound hlo hl) (optN_sound hhi hh) h0 h1 (by simpa using h2)
    simp only[List.length_nil] at h2;have e1:l=0:=by omega
    have e2:h'=0:=by omega
    subst e1;subst e2;refine⟨_,.slice ap 0 0,h,?_,by cases ap<;>simp[Instr.sliceAt,Instr.slice,run_underlying hu,hb,run_size hT hke]⟩
    simp only[Rel];exact .inl ⟨by cases sh<;>simp_all [Sh.mayNil,Sh.less],by simp,hzl⟩
   ·have hb:=run_sliceBounds (P:=P) (S0:=true) (len:=es.length) (cap:=cap) w (optN_sound hlo hl) (optN_sound hhi hh) h0 h1 (by omega)
    have hrows:RelRows w rd k b (off+l.toNat*k) ((es.take h'.toNat).drop l.toNat):=RelRows.drop (RelRows.take k4 _) _
    by_cases hc:cap=l.toNat
    ·have hz:h'.toNat-l.toNat=0:=by omega
     have hnil:(es.take h'.toNat).drop l.toNat=[]:=List.eq_nil_of_length_eq_zero (by rw[elen,hz])
     refine⟨_,.slice (some ⟨b,off,none⟩) (h'.toNat-l.toNat) (cap-l.toNat),h,?_,by rw[hc] at hb ⊢;simp[Instr.sliceAt,Instr.slice,run_underlying hu,hb,run_size hT hke]⟩
     rw[hnil];simp only[Rel];refine .inr ⟨b,off,cap-l.toNat,by rw[hz];rfl,by simp,by omega,?_,by simp[RelRows]⟩
     cases sh<;>simp[ShOk,Sh.less]
    ·refine⟨_,.slice (some ⟨b,off+l.toNat*k,none⟩) (h'.toNat-l.toNat) (cap-l.toNat),h,?_,by simp[Instr.sliceAt,Instr.slice,run_underlying hu,hb,run_size hT hke,hc,hsz,Addr.add_lit]⟩
     simp only[Rel];refine .inr ⟨b,off+l.toNat*k,cap-l.toNat,by rw[elen],by rw[elen];omega,by omega,?_,hrows⟩
     cases sh<;>simp[ShOk,Sh.less]
  ·exact h.elim
 ·-- [:0:0]
  rename_i e sh k es m hk
  have hu:=und_slice hT hk
  rw[when_iff] at h;obtain⟨hke,h⟩:=h;simp only[Bool.and_eq_true] at hke;obtain⟨hke,hsz⟩:=hke
  split at h
  ·rename_i k1 h' k2 m'
   obtain rfl:vlo=none:=by rcases hlo with ⟨_,h⟩ | ⟨_,_,h,_⟩;exact h;cases h
   obtain⟨v,rfl,hv⟩:∃ v,vmx=some v∧Rel w rd (.int k2 m') v:=by
    rcases hmx with ⟨h,_⟩ | ⟨a,v,h,h',h''⟩
    ·cases h
    ·cases h;exact⟨v,h',h''⟩
   obtain⟨v',rfl,hv'⟩:∃ v,vhi=some v∧Rel w rd (.int k1 h') v:=by
    rcases hhi with ⟨h,_⟩ | ⟨a,v,h,h',h''⟩
    ·cases h
    ·cases h;exact⟨v,h',h''⟩
   simp only[Rel] at hv hv';subst hv;subst hv';rw[split_iff] at h;simp only[Rel] at hx
   by_cases hz0:(h' == 0 && m' == 0)=true
   ·have hK:=h.1 hz0
    clear h;simp only[Bool.and_eq_true,beq_iff_eq] at hz0;obtain⟨rfl,rfl⟩:=hz0;have hb:∀ len cap:Nat,(Instr.sliceBounds true len cap none (some (.int k1 0)) (some (.int k2 0))).run P w=.ok (0,0,0) w:=fun len cap=>by
     simp[Instr.sliceBounds,Instr.sliceBound,asIntOf]
    rcases hx with ⟨hmn,rfl,hz⟩ | ⟨b,off,cap,rfl,k1,k2,k3,k4⟩
    ·have hza:NilV .any x:=hz.imp id fun hz=>⟨rfl,hz.2⟩
     obtain⟨ap,rfl⟩:=hz.slice;exact⟨_,.slice ap 0 0,hK,by cases sh<;>simp_all [Rel,Sh.mayNil],by cases ap<;>simp[Instr.sliceAt,Instr.slice,run_underlying hu,hb,run_size hT hke]⟩
    ·refine⟨_,.slice (some ⟨b,off,none⟩) 0 0,hK,?_,by simp[Instr.sliceAt,Instr.slice,run_underlying hu,hb,run_size hT hke]⟩
     cases sh<;>simp only[Rel]<;>exact .inr ⟨b,off,0,rfl,by simp,by simp,by simp[ShOk],by simp[RelRows]⟩
   ·have hz0':(h' == 0 && m' == 0)=false:=by simpa using hz0
    obtain⟨⟨h0,h1,h2⟩,h⟩:=h.2 hz0';have hne:m'≠0:=fun e=>hz0 (by
     have e2:h'=0:=by omega
     simp[e2,e])
    rcases hx with ⟨hmn,rfl,hz⟩ | ⟨b,off,cap,rfl,q1,q2,q3,q4⟩
    ·simp only[List.length_nil] at h2;omega
    ·have hb:(Instr.sliceBounds true es.length cap none (some (.int k1 h')) (some (.int k2 m'))).run P w=.ok (0,h'.toNat,m'.toNat) w:=by
      have a1:0≤m':=by omega
      have a2:m'≤(cap:Int):=by omega
      have a3:h'≤(m'.toNat:Int):=by omega
      simp[Instr.sliceBounds,Instr.sliceBound,asIntOf,h0,a1,a2,a3]
      try (intro hh;exfalso;omega)
     have hm0:¬ m'.toNat=0:=by omega
     refine⟨_,.slice (some ⟨b,off,none⟩) h'.toNat m'.toNat,h,?_,by simp[Instr.sliceAt,Instr.slice,run_underlying hu,hb,run_size hT hke,hm0,Addr.add_lit]⟩
     simp only[Rel];have elen:(es.take h'.toNat).length=h'.toNat:=by rw[List.length_take];omega
     refine .inr ⟨b,off,m'.toNat,by rw[elen],by rw[elen];omega,by omega,?_,RelRows.take q4 _⟩
     cases sh<;>simp[ShOk,Sh.less]
  ·exact h.elim
 ·-- a row that may be written
  rename_i e b off n cap hk
  have hu:=und_slice hT hk
  obtain rfl:vmx=none:=by rcases hmx with ⟨_,rfl⟩ | ⟨_,_,h,_⟩;rfl;cases h
  rw[when_iff] at h;obtain⟨hke,h⟩:=h
  split at h
  ·rename_i l h' hl hh
   obtain⟨⟨h0,h1,h2⟩,h⟩:=h;simp only[Rel] at hx;subst hx;have hb:=run_sliceBounds (P:=P) (S0:=true) (len:=n) (cap:=cap) w (optN_sound hlo hl) (optN_sound hhi hh) h0 h1 h2;refine⟨_,_,h,by simp only[Rel];rfl,?_⟩
   by_cases hc:cap=l.toNat
   ·have hbq:Nat.beq cap l.toNat=true:=by rw[hc];exact Nat.beq_refl _
    rw[hbq];rw[hc] at hb ⊢
    simp[Instr.sliceAt,Instr.slice,run_underlying hu,hb,run_size hT hke]
   ·have hbq:Nat.beq cap l.toNat=false:=by
     cases e:Nat.beq cap l.toNat with
     | false=>rfl
     | true=>exact absurd (Nat.eq_of_beq_eq_true e) hc
    rw[hbq]
    simp[Instr.sliceAt,Instr.slice,run_underlying hu,hb,run_size hT hke,hc,Addr.add_lit]
  ·exact h.elim
 ·-- [:h:m] of a row that may be written
  rename_i e b off n cap m hk
  have hu:=und_slice hT hk
  rw[when_iff] at h;obtain⟨hke,h⟩:=h;simp only[Rel] at hx;subst hx
  split at h
  ·rename_i k1 h' k2 m'
   obtain rfl:vlo=none:=by rcases hlo with ⟨_,h⟩ | ⟨_,_,h,_⟩;exact h;cases h
   obtain⟨v,rfl,hv⟩:∃ v,vmx=some v∧Rel w rd (.int k2 m') v:=by
    rcases hmx with ⟨h,_⟩ | ⟨a,v,h,h',h''⟩
    ·cases h
    ·cases h;exact⟨v,h',h''⟩
   obtain⟨v',rfl,hv'⟩:∃ v,vhi=some v∧Rel w rd (.int k1 h') v:=by
    rcases hhi with ⟨h,_⟩ | ⟨a,v,h,h',h''⟩
    ·cases h
    ·cases h;exact⟨v,h',h''⟩
   simp only[Rel] at hv hv';subst hv;subst hv';obtain⟨⟨h0,h1,h2⟩,h⟩:=h;have hb:(Instr.sliceBounds true n cap none (some (.int k1 h')) (some (.int k2 m'))).run P w=.ok (0,h'.toNat,m'.toNat) w:=by
    have a1:0≤m':=by omega
    have a2:m'≤(cap:Int):=by omega
    have a3:h'≤(m'.toNat:Int):=by omega
    simp[Instr.sliceBounds,Instr.sliceBound,asIntOf,h0,a1,a2,a3]
    try (intro hh;exfalso;omega)
   refine⟨_,.slice (some ⟨b,off,none⟩) h'.toNat m'.toNat,h,by simp only[Rel],?_⟩
   by_cases hm0:m'.toNat=0
   ·rw[hm0] at hb ⊢
    simp[Instr.sliceAt,Instr.slice,run_underlying hu,hb,run_size hT hke]
   ·simp[Instr.sliceAt,Instr.slice,run_underlying hu,hb,run_size hT hke,hm0,Addr.add_lit]
  ·exact h.elim
 ·-- nil
  rename_i e hk
  have hu:=und_slice hT hk
  obtain rfl:vmx=none:=by rcases hmx with ⟨_,rfl⟩ | ⟨_,_,h,_⟩;rfl;cases h
  rw[when_iff] at h;obtain⟨hke,h⟩:=h;simp only[Rel] at hx;subst hx
  split at h
  ·rename_i l h' hl hh
   obtain⟨⟨rfl,rfl⟩,h⟩:=h;have hb:=run_sliceBounds (P:=P) (S0:=true) (len:=0) (cap:=0) w (optN_sound hlo hl) (optN_sound hhi hh) (Int.le_refl _) (Int.le_refl _) (by simp)
   exact⟨_,.slice none 0 0,h,by simp only[Rel],by simp[Instr.sliceAt,Instr.slice,run_underlying hu,hb,run_size hT hke]⟩
  ·exact h.elim
 ·rename_i e m hk
  have hu:=und_slice hT hk
  rw[when_iff] at h;obtain⟨hke,h⟩:=h;simp only[Rel] at hx;subst hx
  split at h
  ·rename_i k1 k2
   obtain rfl:vlo=none:=by rcases hlo with ⟨_,h⟩ | ⟨_,_,h,_⟩;exact h;cases h
   obtain⟨v,rfl,hv⟩:∃ v,vmx=some v∧Rel w rd (.int k2 0) v:=by
    rcases hmx with ⟨h,_⟩ | ⟨a,v,h,h',h''⟩
    ·cases h
    ·cases h;exact⟨v,h',h''⟩
   obtain⟨v',rfl,hv'⟩:∃ v,vhi=some v∧Rel w rd (.int k1 0) v:=by
    rcases hhi with ⟨h,_⟩ | ⟨a,v,h,h',h''⟩
    ·cases h
    ·cases h;exact⟨v,h',h''⟩
   simp only[Rel] at hv hv';subst hv;subst hv';have hb:∀ len cap:Nat,(Instr.sliceBounds true len cap none (some (.int k1 0)) (some (.int k2 0))).run P w=.ok (0,0,0) w:=fun len cap=>by
    simp[Instr.sliceBounds,Instr.sliceBound,asIntOf]
   exact⟨_,.slice none 0 0,h,by simp only[Rel],by simp[Instr.sliceAt,Instr.slice,run_underlying hu,hb,run_size hT hke]⟩
  ·exact h.elim
 ·exact h.elim
theorem aLen_sound(hT:TyOk P C){w:World}{S:St}(hi:Inv w S){t ty:TypeId}{p:AV}{x:Value}(hx:Rel w (rdOf S) p x){K:AV→Prop}(h:aLen C t p S K):∃ z v,K z∧Rel w (rdOf S) z v∧(Builtin.len_ #[t] ty #[x]).run P w=.ok v w:=by
 unfold aLen at h
 split at h
 ·rename_i s hk
  simp only[Rel] at hx;subst hx;exact⟨_,_,h,by simp only[Rel];rfl,by simp[Builtin.len_,run_underlying (und_str hT hk),goInt]⟩
 ·rename_i e sh k es hk
  simp only[Rel] at hx
  rcases hx with ⟨hmn,rfl,hz⟩ | ⟨b,off,cap,rfl,k1,k2,k3,k4⟩
  ·obtain⟨ap,rfl⟩:=hz.slice;exact⟨_,_,h (by simp),by simp only[Rel];rfl,by simp[Builtin.len_,run_underlying (und_slice hT hk),goInt]⟩
  ·refine⟨_,_,h (by simp only[maxLen] at k2;omega),by simp only[Rel];rfl,by simp[Builtin.len_,run_underlying (und_slice hT hk),goInt]⟩
 ·rename_i e hk
  simp only[Rel] at hx;subst hx;exact⟨_,_,h,by simp only[Rel];rfl,by simp[Builtin.len_,run_underlying (und_slice hT hk),goInt]⟩
 ·rename_i e b off m cap hk
  simp only[Rel] at hx;subst hx;exact⟨_,_,h,by simp only[Rel];rfl,by simp[Builtin.len_,run_underlying (und_slice hT hk),goInt]⟩
 ·rename_i k e hk
  simp only[Rel] at hx;subst hx;exact⟨_,_,h,by simp only[Rel];rfl,by simp[Builtin.len_,run_underlying (und_map hT hk),goInt]⟩
 ·rename_i k e r hk
  obtain⟨es,hS,h⟩:=h;simp only[Rel] at hx;subst hx;obtain⟨ms,c,h1,h2,_⟩:=hi r _ hS;have hlen:es.length=ms.size:=by simpa using RelL.length h2
  refine⟨_,.int .i64 (es.length:Int),h,by simp only[Rel],?_⟩
  have hgo:(getObj r).run P w=.ok (.map ms c) w:=by simp[getObj,Sem.run,h1]
  simp[Builtin.len_,run_underlying (und_map hT hk),goInt,hgo,hlen]
 ·exact h.elim
end
section
variable {P:Program} {C:Cx}
theorem obj_cells{w:World}{S:St}(hi:Inv w S){b:Nat}{e:TypeId}{cells:List AV}(hS:S b=some (.obj e cells)) :
 ∃ cs:Array Value,w.heap[b]? = some (.cells cs e (0,0))∧RelL w (rdOf S) cells cs.toList∧(∀ v∈cs.toList,v.oneCell'=true)∧CellsAt w b 0 cs.toList:=by
 obtain⟨cs,h1,h2,h3⟩:=hi b _ hS;refine⟨cs,h1,h2,h3,fun i v hv=>?_⟩
 rw[Nat.zero_add,cell_of_row w b i cs e (0,0) h1]
 simpa using hv
theorem aLoad_sound(hT:TyOk P C){w:World}{S:St}(hi:Inv w S){t:TypeId}{p:AV}{x:Value}(hx:Rel w (rdOf S) p x){K:AV→Prop}(h:aLoad C t p S K) :
 ∃ z v,K z∧Rel w (rdOf S) z v∧(Instr.loadAt t x).run P w=.ok v w:=by
 unfold aLoad at h
 split at h
 ·rw[when_iff] at h;obtain⟨hk,h⟩:=h;simp only[Rel] at hx;obtain⟨b,off,rfl,hr⟩:=hx;obtain⟨vs,h1,h2,h3,_⟩:=RelAt.cells hr;obtain⟨z,v,k1,k2,k3⟩:=aPart_load (P:=P) hT hk h1 h2 h3 h;exact⟨z,v,k1,k3,by simpa [Instr.loadAt,Instr.sureAddr] using k2⟩
 ·rw[when_iff] at h;obtain⟨hk,e,cells,hS,h⟩:=h;simp only[Rel] at hx;subst hx;obtain⟨cs,h1,h2,h3,h4⟩:=obj_cells hi hS;obtain⟨z,v,k1,k2,k3⟩:=aPart_load (P:=P) hT hk h2 h4 h3 h;exact⟨z,v,k1,k3,by simpa [Instr.loadAt,Instr.sureAddr] using k2⟩
 ·exact h.elim
theorem aStore_sound(hT:TyOk P C){w:World}{S:St}(hg:Good C w S){t:TypeId}{p q:AV}{x y:Value}(hx:Rel w (rdOf S) p x)(hy:Rel w (rdOf S) q y){K:St→Prop}(h:aStore C t p q S K) :
 ∃ w' S',K S'∧Good C w' S'∧Adv w S w' S'∧(Instr.storeAt t x y).run P w=.ok () w':=by
 unfold aStore at h
 split at h
 ·rename_i b off
  rw[when_iff] at h;obtain⟨hk,e,cells,hS,h⟩:=h;rw[when_iff,forceL_eq] at h;obtain⟨hl,h⟩:=h;simp only[Bool.and_eq_true] at hk;obtain⟨hk,ho,hsz⟩:=hk;have hsz:=Nat.eq_of_beq_eq_true hsz;have hl:=Nat.le_of_ble_eq_true hl;simp only[Rel] at hx;subst hx;obtain⟨cs,h1,h2,h3,h4⟩:=obj_cells hg.1 hS;obtain⟨m1,m2⟩:=RelL_cellsOf hy ho;have hlen:=RelL.length m1;have hclen:=RelL.length h2;have hcs:cs.size=cells.length:=by simpa using hclen.symm
  have hst:=run_storeCells_at P b off e y.cells.toList 0 cs w h1 (by rw[← hlen,hsz,hcs];simpa using hl) m2
  have hysz:y.cells.size=(C.T t).size:=by rw[← hsz,hlen];simp
  simp only[Nat.add_zero] at hst;have hsame:(cs.toList.take off++y.cells.toList++cs.toList.drop (off+y.cells.toList.length)).toArray.size=cs.size:=by
   simp only[List.size_toArray,List.length_append,List.length_take,List.length_drop,Array.length_toList];rw[hysz,hcs];omega
  have hadv:=Adv.setRow (cells':=setRange cells off (cellsOf q)) hS h1 hsame
  refine⟨_,_,h,hg.mk ?_ hadv,hadv,?_⟩
  ·intro b' o ho'
   by_cases hb:b'=b
   ·subst hb;rw[St.upd_same] at ho'
    cases ho'
    refine⟨_,setRow_heap w b' cs _ e (0,0) h1,?_,?_⟩
    ·have:=RelL.setRange (off:=off) (RelL.mono hadv _ _ m1) (RelL.mono hadv _ _ h2) (by rw[hsz];exact hl)
     simpa using this
    ·intro u hu;simp only[List.mem_append] at hu
     rcases hu with (hu | hu) | hu
     ·exact h3 u (List.mem_of_mem_take hu)
     ·exact m2 u hu
     ·exact h3 u (List.mem_of_mem_drop hu)
   ·rw[St.upd_ne _ _ _ _ hb] at ho';exact OwnOk.mono hadv (setRow_other w b b' _ hb) (hg.1 b' o ho')
  ·simp only[Instr.storeAt,Instr.sureAddr,storeVar,Sem.run_bind,run_size hT hk,Result.andThen_ok,Sem.run_pure];rw[if_neg (by simp[hysz])]
   exact hst
 ·exact h.elim
theorem newObj_sound{w:World}{S:St}(hg:Good C w S){e:TypeId}{cells:List AV}{cs:Array Value}(hr:RelL w (rdOf S) cells cs.toList)(h1:∀ v∈cs.toList,v.oneCell'=true) :
 S w.heap.size=none∧Good C (w.alloc (.cells cs e)) (S.upd w.heap.size (.obj e cells))∧Adv w S (w.alloc (.cells cs e)) (S.upd w.heap.size (.obj e cells)):=by
 have hS:=hg.1.fresh
 have hadv:=Adv.allocOwn (.cells cs e) (.obj e cells) hS
 refine⟨hS,hg.mk (hg.1.allocOwn _ _ ⟨cs,heap_alloc_new w _,RelL.mono hadv _ _ hr,h1⟩) hadv,hadv⟩
theorem foldl_set(off:Nat):∀ (l:List Value) (k:Nat) (cs:Array Value),off+k+l.length≤cs.size→
 (((l.zipIdx k).foldl (fun cs (x:Value×Nat)=>cs.setIfInBounds (off+x.2) x.1) cs).toList=cs.toList.take (off+k)++l++cs.toList.drop (off+k+l.length))
 | [],k,cs,h=>by simp
 | v::l,k,cs,h=>by
   have hi:off+k<cs.size:=by simp at h;omega
   rw[List.zipIdx_cons,List.foldl_cons];have:=foldl_set off l (k+1) (cs.setIfInBounds (off+k) v) (by simp at h ⊢;omega)
   rw[this];have e1:(cs.setIfInBounds (off+k) v).toList=cs.toList.set (off+k) v:=by simp
   rw[e1];have e2:(cs.toList.set (off+k) v).take (off+(k+1))=cs.toList.take (off+k)++[v]:=by
    rw[← Nat.add_assoc,List.take_add_one,List.take_set_of_le (Nat.le_refl _)]
    simp[List.getElem?_set,hi]
   have e3:(cs.toList.set (off+k) v).drop (off+(k+1)+l.length)=cs.toList.drop (off+k+(v::l).length):=by
    rw[List.drop_set_of_lt (by omega)]
    simp
    congr 1
    omega
   rw[e2,e3]
   simp
theorem aFill_sound{w:World}{rd}(place:Nat→Option (Nat×Nat)):∀ (parts:List (Nat×AV)) (vparts:List (Nat×Value)) (cells:List AV) (cs:Array Value) (out:List AV),
 RelL w rd (parts.map (·.2)) (vparts.map (·.2))→parts.map (·.1)=vparts.map (·.1)→RelL w rd cells cs.toList→(∀ v∈cs.toList,v.oneCell'=true)→aFill place cells parts=some out→
 ∃ cs',Instr.fill place cs vparts=some cs'∧RelL w rd out cs'.toList∧(∀ v∈cs'.toList,v.oneCell'=true)
 | [],vparts,cells,cs,out,hp,hi,hr,h1,h=>by
  simp only[aFill,Option.some.injEq] at h;subst h
  cases vparts with
  | nil=>exact⟨cs,rfl,hr,h1⟩
  | cons=>simp at hi
 | (i,x)::r,vparts,cells,cs,out,hp,hi,hr,h1,h=>by
  cases vparts with
  | nil=>simp at hi
  | cons vp vr=>
    obtain⟨j,v⟩:=vp;simp only[List.map_cons,List.cons.injEq] at hi;obtain⟨rfl,hi⟩:=hi;simp only[List.map_cons,RelL] at hp;obtain⟨u,us,he,hx,hp⟩:=hp;simp only[List.cons.injEq] at he;obtain⟨rfl,rfl⟩:=he;simp only[aFill] at h
    cases hpl:place i with
    | none=>rw[hpl] at h;cases h
    | some q=>
      obtain⟨off,size⟩:=q;rw[hpl] at h;simp only[cond_eq_ite,Bool.and_eq_true] at h
      split at h
      ·rename_i hc
       obtain⟨ho,hs,hl⟩:=hc;have hs:=Nat.eq_of_beq_eq_true hs;have hl:=Nat.le_of_ble_eq_true hl;obtain⟨m1,m2⟩:=RelL_cellsOf hx ho;have hlen:=RelL.length m1;have hclen:=RelL.length hr;have hcs:cs.size=cells.length:=by simpa using hclen.symm
       have hvsz:v.cells.size=size:=by rw[← hs,hlen];simp
       have hfold:((v.cells.zipIdx.foldl (fun cs (x:Value×Nat)=>cs.setIfInBounds (off+x.2) x.1) cs).toList=cs.toList.take off++v.cells.toList++cs.toList.drop (off+v.cells.toList.length)):=by
        have:=foldl_set off v.cells.toList 0 cs (by simp[hvsz,hcs];exact hl)
        simp only[Nat.add_zero] at this;rw[← this,← Array.foldl_toList,Array.toList_zipIdx]
       have hnew:RelL w rd (setRange cells off (cellsOf x)) (v.cells.zipIdx.foldl (fun cs (x:Value×Nat)=>cs.setIfInBounds (off+x.2) x.1) cs).toList:=by
        rw[hfold];exact RelL.setRange m1 hr (by rw[hs];exact hl)
       have hnew1:∀ u∈(v.cells.zipIdx.foldl (fun cs (x:Value×Nat)=>cs.setIfInBounds (off+x.2) x.1) cs).toList,u.oneCell'=true:=by
        rw[hfold];intro u hu;simp only[List.mem_append] at hu
        rcases hu with (hu | hu) | hu
        ·exact h1 u (List.mem_of_mem_take hu)
        ·exact m2 u hu
        ·exact h1 u (List.mem_of_mem_drop hu)
       obtain⟨cs',k1,k2,k3⟩:=aFill_sound place r vr _ _ out hp hi hnew hnew1 h;refine⟨cs',?_,k2,k3⟩;simp only[Instr.fill,hpl];rw[if_neg (by simp[hvsz,hcs];omega)]
       exact k1
      ·cases h
theorem places_of(hT:TyOk P C):∀ (fs:List Field),(fs.all fun f=>known C f.type)=true→fs.mapM (fun f=>(P.info? f.type).map fun i=>(f.offset,i.size))=some (fs.map fun f=>(f.offset,(C.T f.type).size))
 | [],_=>rfl
 | f::fs,h=>by
   simp only[List.all_cons,Bool.and_eq_true] at h;obtain⟨i,d,hi,hs,_⟩:=ty_info hT h.1
   simp[List.mapM_cons,hi,hs,places_of hT fs h.2]
theorem zero_sound(hT:TyOk P C){t:TypeId}(hk:known C t=true)(w:World)(rd) :
 (zeroValue t).run P w=.ok (C.T t).zero w∧RelL w rd (cellsOf (ofV (C.T t).zero)) (C.T t).zero.cells.toList∧(∀ v∈(C.T t).zero.cells.toList,v.oneCell'=true)∧(C.T t).zero.cells.size=(C.T t).size:=by
 obtain⟨i,d,hi,hs,hb,hz,hd,hk',h1,h2⟩:=ty_info hT hk;have h3:∀ v∈(C.T t).zero.cells.toList,v.oneCell'=true:=fun v hv=>List.all_eq_true.1 h2 v hv
 refine⟨by simp[zeroValue,typeInfo,hi,hz],?_,h3,h1⟩
 have hr:=Rel_ofV w rd (C.T t).zero
 have hok:okCells (ofV (C.T t).zero)=true∨∃ v,(C.T t).zero=v∧v.cells=#[v]∧cellsOf (ofV v)=[ofV v]:=by
  cases hz:(C.T t).zero with
  | agg cs=>
    left
    rw[hz] at h2;simp only[ofV];rw[if_pos (by simpa [Value.cells] using h2)];rfl
  | _=>
    right
    refine⟨_,rfl,rfl,?_⟩;simp only[ofV];unfold ofV0
    split<;>rfl
 rcases hok with hok | ⟨v,e1,e2,e3⟩
 ·exact(RelL_cellsOf hr hok).1
 ·rw[e1] at hr ⊢;rw[e2,e3];simp only[RelL];exact⟨v,[],rfl,hr,rfl⟩
theorem rows_len{k:Nat}:∀ (cells:List AV) (n:Nat),cells.length=n*k→(∀ e∈rowsOf k cells n,e.length=k)∧(rowsOf k cells n).flatten=cells∧(rowsOf k cells n).length=n
 | cells,0,h=>by simp at h;subst h;simp[rowsOf]
 | cells,n+1,h=>by
   rw[Nat.succ_mul] at h;obtain⟨h1,h2,h3⟩:=rows_len (k:=k) (cells.drop k) n (by rw[List.length_drop];omega)
   refine⟨fun e he=>?_,?_,by simp[rowsOf,h3]⟩
   ·simp only[rowsOf,List.mem_cons] at he
    rcases he with rfl | he
    ·rw[List.length_take];omega
    ·exact h1 e he
   ·simp only[rowsOf,List.flatten_cons,h2,List.take_append_drop]
theorem RelL.of_get{w:World}{rd}:∀ {xs:List AV} {vs:List Value},xs.length=vs.length→(∀ (i:Nat) (x:AV) (v:Value),xs[i]? = some x→vs[i]? = some v→Rel w rd x v)→RelL w rd xs vs
 | [],vs,hl,h=>by simp only[RelL];exact List.eq_nil_of_length_eq_zero (by simpa using hl.symm)
 | x::xs,[],hl,h=>by simp at hl
 | x::xs,v::vs,hl,h=>by
   simp only[RelL];exact⟨v,vs,rfl,h 0 x v rfl rfl,RelL.of_get (by simpa using hl) fun i x' v' h1 h2=>h (i+1) x' v' (by simpa using h1) (by simpa using h2)⟩
theorem mulL_get{k:Nat}{xs:List AV}:∀ (n i:Nat),i<n*xs.length→(mulL k xs n)[i]? = xs[i % xs.length]?
 | 0,i,h=>by simp at h
 | n+1,i,h=>by
   simp only[mulL];rw[Nat.succ_mul] at h
   by_cases hi:i<xs.length
   ·rw[List.getElem?_append_left hi,Nat.mod_eq_of_lt hi]
   ·rw[List.getElem?_append_right (by omega),mulL_get n (i-xs.length) (by omega)]
    congr 1
    rw[Nat.mod_eq_sub_mod (by omega:i ≥ xs.length)]
theorem mulL_length{k:Nat}{xs:List AV}:∀ n,(mulL k xs n).length=n*xs.length
 | 0=>by simp[mulL]
 | n+1=>by simp only[mulL,List.length_append,mulL_length n,Nat.succ_mul];omega
theorem zeros_sound{w:World}{rd}{xs:List AV}{zs:Array Value}(hr:RelL w rd xs zs.toList)(n:Nat) :
 RelL w rd (mulL 0 xs n) ((Array.range (n*zs.size)).map (zs[· % zs.size]!)).toList:=by
 have hl:=RelL.length hr
 have hl':xs.length=zs.size:=by simpa using hl
 refine RelL.of_get (by simp[mulL_length,hl']) fun i x v h1 h2=>?_
 have hi:i<n*zs.size:=by
  rcases Nat.lt_or_ge i (n*zs.size) with h | h
  ·exact h
  ·rw[List.getElem?_eq_none (by simp[mulL_length,hl',h])] at h1;cases h1
 rw[mulL_get n i (by rw[hl'];exact hi),hl'] at h1
 have hz:0<zs.size:=by
  rcases Nat.eq_zero_or_pos zs.size with h | h
  ·rw[h] at hi;simp at hi
  ·exact h
 have hm:i % zs.size<zs.size:=Nat.mod_lt _ hz
 obtain⟨u,hu,hru⟩:=RelL.get hr _ x h1;have e:v=u:=by
  have h2':zs[i % zs.size]! = v:=by
   rw[Array.getElem?_toList,Array.getElem?_map,Array.getElem?_eq_getElem (by simpa using hi)] at h2
   simpa using h2
  rw[← h2'];have hu':zs[i % zs.size]? = some u:=by simpa using hu
  rw[getElem!_pos zs _ hm];rw[Array.getElem?_eq_getElem hm] at hu';exact Option.some.inj hu'
 rw[e];exact hru
theorem zeros_one{zs:Array Value}(h:∀ v∈zs.toList,v.oneCell'=true)(n:Nat):∀ v∈((Array.range (n*zs.size)).map (zs[· % zs.size]!)).toList,v.oneCell'=true:=by
 intro v hv;simp only[Array.toList_map,List.mem_map,Array.mem_toList_iff,Array.mem_range] at hv;obtain⟨i,hi,rfl⟩:=hv;have hz:0<zs.size:=by
  rcases Nat.eq_zero_or_pos zs.size with h | h
  ·rw[h] at hi;simp at hi
  ·exact h
 have hm:i % zs.size<zs.size:=Nat.mod_lt _ hz
 rw[getElem!_pos zs _ hm];exact h _ (by simp)
end
section
variable {P:Program} {C:Cx}
theorem Adv.setTip{w:World}{S:St}{b:Nat}{e:TypeId}{k n m:Nat}(hS:S b=some (.tip e k n))(hnm:n≤m){old cs:Array Value}(hb:w.heap[b]? = some (.cells old e (0,0)))(hsz:cs.size=old.size)
 (hpre:∀ i,i<n*k→cs[i]? = old[i]?):Adv w S (w.setRow b cs) ((S.del b).upd b (.tip e k m)):=by
 have hother:∀ x,x≠b→(w.setRow b cs).heap[x]? = w.heap[x]?:=fun x hx=>setRow_other w b x cs hx
 have hS':∀ x,x≠b→((S.del b).upd b (.tip e k m)) x=S x:=fun x hx=>by rw[St.upd_ne _ _ _ _ hx,St.del_ne _ _ _ hx]
 refine⟨rfl,rfl,rfl,by simp[World.setRow],fun x hx hn=>?_,fun x off hx hr=>?_,fun x e' n' hx=>?_⟩
 ·have hne:x≠b:=St.ne_of' hn hS
  exact⟨by rw[hS' x hne];exact hn,hother x hne⟩
 ·by_cases hne:x=b
  ·subst hne;simp only[rdOf,hS] at hr;refine⟨?_,?_⟩
   ·simp only[rdOf,St.upd_same];exact Nat.lt_of_lt_of_le hr (Nat.mul_le_mul_right _ hnm)
   ·rw[cell_of_row _ x off _ e (0,0) (setRow_heap w x old cs e (0,0) hb),cell_of_row w x off old e (0,0) hb];exact hpre off hr
  ·refine⟨?_,cell_of_block (hother x hne) off⟩;simp only[rdOf,hS' x hne];exact hr
 ·by_cases hne:x=b
  ·subst hne;simp only[World.shape?,hb] at hx;simp only[World.shape?,setRow_heap w x old cs e (0,0) hb]
   simpa [hsz] using hx
  ·rw[shape_of_block (hother x hne)];exact hx
theorem src_cells{w:World}{rd}{sh:Sh}{k:Nat}{new:List (List AV)}{x:Value}(hx:Rel w rd (.sl sh k new) x) :
 (new=[]∧∃ base cap,x=.slice base 0 cap)∨∃ a cap news,x=.slice (some a) new.length cap∧news.length=new.length*k∧(∀ j u,news[j]? = some u→w.cell? (a.add j)=some u)∧(∀ u∈news,u.oneCell'=true)∧RelL w rd new.flatten news:=by
 simp only[Rel] at hx
 rcases hx with ⟨_,rfl,hz⟩ | ⟨b,off,cap,rfl,h1,h2,h3,h4⟩
 ·obtain⟨ap,rfl⟩:=hz.slice;exact .inl ⟨rfl,ap,0,rfl⟩
 ·obtain⟨vs,k1,k2,k3,k4,k5⟩:=RelRows.cells h4;exact .inr ⟨⟨b,off,none⟩,cap,vs,rfl,k5,fun j u hj=>by rw[Addr.add_lit];exact k2 j u hj,k3,k1⟩
theorem append_nothing(hT:TyOk P C){w:World}{t ty e:TypeId}(hk:(C.T t).kind=.slice e)(hke:known C e=true)(base:Option Addr)(n cap:Nat)(hn:n≤cap)(b2:Option Addr)(c2:Nat) :
 (Builtin.append_ #[t,t] ty #[.slice base n cap,.slice b2 0 c2]).run P w=.ok (.slice base n cap) w:=by
 have hu:=und_slice hT hk
 cases base<;>cases b2<;>simp[Builtin.append_,run_underlying hu,run_size hT hke,Builtin.lenOf,hn,Builtin.firstCells,loadCells,loadCellsFrom,storeCells]
theorem zeroCells_one{zs:Array Value}(h:zs.toList.all Value.oneCell'=true)(n:Nat):∀ v∈(Builtin.zeroCells zs n).toList,v.oneCell'=true:=by
 have:=zeros_one (List.all_eq_true.1 h) n
 simpa [Builtin.zeroCells] using this
theorem ones_room{old news:List Value}(h:∀ v∈old,v.oneCell'=true)(h':∀ v∈news,v.oneCell'=true)(a b:Nat):∀ v∈(old.take a++news++old.drop b).toArray.toList,v.oneCell'=true:=fun v hv=>by
 simp only[List.mem_append,List.toList_toArray] at hv
 rcases hv with (hv | hv) | hv
 ·exact h v (List.mem_of_mem_take hv)
 ·exact h' v hv
 ·exact h v (List.mem_of_mem_drop hv)
theorem grown_sound{w:World}{S:St}(hg:Good C w S){e:TypeId}{k m cap:Nat}{rows:List (List AV)}{vs rest:List Value}(hrows:rows.length=m)(hlen:∀ r∈rows,r.length=k)(hr:RelL w (rdOf S) rows.flatten vs)(h1:∀ u∈vs,u.oneCell'=true)
 (hvs:vs.length=m*k) (hcap:m≤cap) (hmax:cap≤maxLen) (hrest:rest.length=(cap-m)*k) (hone:∀ u∈rest,u.oneCell'=true) {cur:Array Value} (hcur:cur.toList=vs++rest) :
 S w.heap.size=none∧Good C (w.drew.alloc (.cells cur e)) (S.upd w.heap.size (.tip e k m))∧Adv w S (w.drew.alloc (.cells cur e)) (S.upd w.heap.size (.tip e k m))∧
  Rel (w.drew.alloc (.cells cur e)) (rdOf (S.upd w.heap.size (.tip e k m))) (.sl (.own w.heap.size) k rows) (.slice (some ⟨w.heap.size,0,none⟩) m cap):=by
 have hS:=hg.1.fresh
 have hsz:cur.size=cap*k:=by
  have:cur.toList.length=cap*k:=by
   rw[hcur,List.length_append,hvs,hrest,← Nat.add_mul]
   congr 1;omega
  simpa using this
 have hadv:Adv w S (w.drew.alloc (.cells cur e)) (S.upd w.heap.size (.tip e k m)):=(Adv.refl w S).drew.trans (Adv.allocOwn (w:=w.drew) (.cells cur e) (.tip e k m) hS)
 have hb:(w.drew.alloc (.cells cur e)).heap[w.heap.size]? = some (.cells cur e (0,0)):=heap_alloc_new w.drew _
 refine⟨hS,hg.mk (hg.1.drew.allocOwn (w:=w.drew) _ _ ⟨cur,cap,hb,hcap,hmax,hsz,fun v hv=>by
  rw[hcur] at hv
  rcases List.mem_append.1 hv with hv | hv
  ·exact h1 v hv
  ·exact hone v hv⟩) hadv,hadv,?_⟩
 simp only[Rel];refine .inr ⟨w.heap.size,0,cap,by rw[hrows],by omega,hmax,?_,?_⟩
 ·exact⟨rfl,rfl,e,by simp only[World.shape?,hb,hsz]⟩
 ·refine RelRows.of_cells hlen (RelL.mono hadv _ _ hr) (fun i v hv=>?_) h1 (fun i hi=>?_)
  ·rw[Nat.zero_add,cell_of_row _ _ i cur e (0,0) hb];have:cur.toList[i]? = some v:=by
    rw[hcur,List.getElem?_append_left (by
     rcases Nat.lt_or_ge i vs.length with h | h
     ·exact h
     ·rw[List.getElem?_eq_none h] at hv;cases hv)]
    exact hv
   simpa using this
  ·simp only[rdOf,St.upd_same];rw[hrows] at hi;omega
theorem aAppend_sound'(hT:TyOk P C){w:World}{S:St}(hg:Good C w S){t ty:TypeId}{p q:AV}(hp:∀ b k es,p≠.sl (.acc b) k es){x y:Value}(hx:Rel w (rdOf S) p x)(hy:Rel w (rdOf S) q y){K:AV→St→Prop}(h:aAppend C t p q S K) :
 ∃ z v w' S',K z S'∧Rel w' (rdOf S') z v∧Good C w' S'∧Adv w S w' S'∧(Builtin.append_ #[t,t] ty #[x,y]).run P w=.ok v w':=by
 unfold aAppend at h
 split at h
 case h_2=>exact h.elim
 rename_i e hk
 rw[when_iff] at h;obtain⟨hke,h⟩:=h;simp only[Bool.and_eq_true] at hke;obtain⟨hke,hpos,hbpos⟩:=hke;have hpos:0<(C.T e).size:=by have:=Nat.le_of_ble_eq_true hpos;omega
 have hbpos:0<(C.T e).bytes:=by have:=Nat.le_of_ble_eq_true hbpos;omega
 have hbytes:∀ n:Nat,n*(C.T e).bytes≤140737488355328→n≤140737488355328:=fun n h=>Nat.le_trans (Nat.le_mul_of_pos_right n hbpos) h
 have hu:=und_slice hT hk
 obtain⟨i,d,hi,his,hib,hiz,_,_,hzs,hz1⟩:=ty_info hT hke
 split at h
 ·-- nothing is appended
  simp only[Rel] at hy;subst hy
  split at h
  ·simp only[Rel] at hx;subst hx;exact⟨_,_,w,S,h,by simp only[Rel],hg,Adv.refl w S,append_nothing hT hk hke none 0 0 (Nat.le_refl _) none 0⟩
  ·rename_i sh k es
   have hx':=hx
   simp only[Rel] at hx
   rcases hx with ⟨_,_,hz⟩ | ⟨b,off,cap,rfl,h1,_⟩
   ·obtain⟨ap,rfl⟩:=hz.slice;exact⟨_,_,w,S,h,hx',hg,Adv.refl w S,append_nothing hT hk hke ap 0 0 (Nat.le_refl _) none 0⟩
   ·exact⟨_,_,w,S,h,hx',hg,Adv.refl w S,append_nothing hT hk hke _ _ _ h1 none 0⟩
  ·exact h.elim
 ·rename_i sh2 k' new
  rw[when_iff] at h;obtain⟨hk',h⟩:=h;have hk':=Nat.eq_of_beq_eq_true hk';have hnewlen:∀ r∈new,r.length=k':=by
   simp only[Rel] at hy
   rcases hy with ⟨_,rfl,_⟩ | ⟨b,off,cap,rfl,_,_,_,h4⟩
   ·simp
   ·exact RelRows.lens h4
  have hsrc:=src_cells hy
  split at h
  ·-- onto nil
   simp only[Rel] at hx;subst hx;obtain⟨hb,h⟩:=h
   split at h
   ·rcases hsrc with ⟨_,base,c2,rfl⟩ | ⟨a,c2,news,rfl,h1,_⟩
    ·exact⟨_,_,w,S,h,by simp only[Rel],hg,Adv.refl w S,append_nothing hT hk hke none 0 0 (Nat.le_refl _) base c2⟩
    ·exact⟨_,_,w,S,h,by simp only[Rel],hg,Adv.refl w S,append_nothing hT hk hke none 0 0 (Nat.le_refl _) (some a) c2⟩
   ·rename_i r rs
    rcases hsrc with ⟨hn,_⟩ | ⟨a,c2,news,rfl,h1,h2,h3,h4⟩
    ·cases hn
    ·have hm:0<(r::rs).length:=by simp
     have hmle:=hbytes _ hb
     have hrun:=run_append_nil (P:=P) (w:=w) t ty e i (C.T e).zero hu hi hiz a (r::rs).length c2 news (by rw[h1,his,hk']) h2 hm (by omega) (by rw[hib];omega)
     have hge:=grownCap_ge w (r::rs).length 0 e
     have hcm:=grownCap_le_maxLen w (r::rs).length 0 e (by simp only[maxLen];omega)
     obtain⟨g1,g2,g3,g4⟩:=grown_sound hg (e:=e) (k:=k') (m:=(r::rs).length) (cap:=grownCap w (r::rs).length 0 e) (rows:=r::rs) (vs:=news)
      (rest:=(Builtin.zeroCells (C.T e).zero.cells (grownCap w (r::rs).length 0 e-(r::rs).length)).toList)
      (cur:=news.toArray++Builtin.zeroCells (C.T e).zero.cells (grownCap w (r::rs).length 0 e-(r::rs).length)) rfl hnewlen h4 h3 h1 hge hcm
      (by rw[Array.length_toList,size_zeroCells,hzs,hk']) (zeroCells_one hz1 _) (by simp)
     exact⟨_,_,_,_,h _ g1,g4,g2,g3,hrun⟩
  ·-- onto what is the call's own
   rename_i b k es
   rw[when_iff] at h;obtain⟨hkk,⟨hSb,hb⟩,h⟩:=h;have hkk:=Nat.eq_of_beq_eq_true hkk;subst hkk;have hnle:=hbytes _ hb;have hx':=hx;simp only[Rel,Sh.mayNil,Bool.false_eq_true,reduceCtorEq,false_and,false_or] at hx;obtain⟨b1,off,cap,rfl,hlc,hmax,⟨hbb,hoff,e',hsh⟩,hrows⟩:=hx;subst hbb;subst hoff;obtain⟨cur,cap',hheap,hc1,hc2,hc3,hc4⟩:=hg.1 b _ hSb;have hcapk:cur.size=cap*k:=by
    simp only[World.shape?,hheap,Option.some.injEq,Prod.mk.injEq] at hsh;exact hsh.2
   obtain⟨olds,o1,o2,o3,o4,o5⟩:=RelRows.cells hrows;have heslen:∀ r∈es,r.length=k:=RelRows.lens hrows;have hpre:olds=cur.toList.take (es.length*k):=by
    apply List.ext_getElem?
    intro j
    by_cases hj:j<es.length*k
    ·have hjc:j<cur.size:=by
      rw[hcapk];exact Nat.lt_of_lt_of_le hj (Nat.mul_le_mul_right _ hlc)
     have hjo:olds[j]? = some olds[j]:=List.getElem?_eq_getElem (by rw[o5];exact hj)
     have:=o2 j _ hjo
     rw[Nat.zero_add,cell_of_row w b j cur e (0,0) hheap] at this;rw[hjo,List.getElem?_take,if_pos hj,Array.getElem?_toList,this]
    ·rw[List.getElem?_eq_none (by rw[o5];omega),List.getElem?_take,if_neg hj]
   rcases hsrc with ⟨hn,base,c2,rfl⟩ | ⟨a,c2,news,rfl,h1,h2,h3,h4⟩
   ·subst hn;have he:(S.del b).upd b (.tip e k (es.length+([]:List (List AV)).length))=S:=by
     funext x
     by_cases hxb:x=b
     ·subst hxb;rw[St.upd_same,hSb];rfl
     ·rw[St.upd_ne _ _ _ _ hxb,St.del_ne _ _ _ hxb]
    have hh:=h b (St.del_same S b)
    rw[he,List.append_nil] at hh;exact⟨_,_,w,S,hh,hx',hg,Adv.refl w S,append_nothing hT hk hke _ _ _ hlc base c2⟩
   ·by_cases hroom:es.length+new.length≤cap
    ·have hfit:es.length*i.size+news.length≤cur.size:=by
      rw[h1,his,hk',hcapk,← Nat.add_mul];exact Nat.mul_le_mul_right _ hroom
     have hrun:=run_append_room (P:=P) w t ty e i hu hi b es.length cap cur hheap a new.length c2 news (by rw[h1,his,hk']) h2 h3 hroom hfit
     rw[his,hk'] at hrun;have hszn:(cur.toList.take (es.length*k)++news++cur.toList.drop (es.length*k+news.length)).toArray.size=cur.size:=by
      simp only[List.size_toArray,List.length_append,List.length_take,List.length_drop,Array.length_toList];rw[his,hk'] at hfit;omega
     have hadv:=Adv.setTip (m:=es.length+new.length) hSb (Nat.le_add_right _ _) hheap hszn (fun j hj=>by
      have hjc:j<cur.toList.length:=by
       rw[Array.length_toList,hcapk];exact Nat.lt_of_lt_of_le hj (Nat.mul_le_mul_right _ hlc)
      simp only[List.getElem?_toArray];rw[List.append_assoc,List.getElem?_append_left (by rw[List.length_take];omega),List.getElem?_take,if_pos hj,Array.getElem?_toList])
     have hheap':=setRow_heap w b cur (cur.toList.take (es.length*k)++news++cur.toList.drop (es.length*k+news.length)).toArray e (0,0) hheap
     refine⟨_,_,_,_,h b (St.del_same S b),?_,hg.mk ?_ hadv,hadv,hrun⟩
     ·simp only[Rel];refine .inr ⟨b,0,cap,by rw[List.length_append],by rw[List.length_append];exact hroom,hmax,?_,?_⟩
      ·exact⟨rfl,rfl,e,by simp only[World.shape?,hheap',hszn,hcapk]⟩
      ·refine RelRows.of_cells (vs:=olds++news) (fun r hr=>?_) ?_ (fun j v hj=>?_) (fun u hu'=>?_) (fun j hj=>?_)
       ·rcases List.mem_append.1 hr with hr | hr
        ·exact heslen r hr
        ·exact hnewlen r hr
       ·rw[List.flatten_append];exact RelL.append (RelL.mono hadv _ _ o1) (RelL.mono hadv _ _ h4)
       ·rw[Nat.zero_add,cell_of_row _ b j _ e (0,0) hheap',List.getElem?_toArray,← hpre];rw[List.getElem?_append_left (by
         rcases Nat.lt_or_ge j (olds++news).length with h | h
         ·exact h
         ·rw[List.getElem?_eq_none h] at hj;cases hj)]
        exact hj
       ·rcases List.mem_append.1 hu' with hu' | hu'
        ·exact o3 u hu'
        ·exact h3 u hu'
       ·simp only[rdOf,St.upd_same];rw[List.length_append] at hj;omega
     ·intro b' o' ho'
      by_cases hbb:b'=b
      ·subst hbb;rw[St.upd_same] at ho';cases ho';exact⟨_,cap,hheap',hroom,hmax,by rw[hszn,hcapk],ones_room hc4 h3 _ _⟩
      ·rw[St.upd_ne _ _ _ _ hbb,St.del_ne _ _ _ hbb] at ho';exact OwnOk.mono hadv (setRow_other w b b' _ hbb) (hg.1 b' o' ho')
    ·have holds:∀ j v,olds[j]? = some v→w.cell? ((⟨b,0,none⟩:Addr).add j)=some v:=fun j v hj=>by
      rw[Addr.add_lit];exact o2 j v hj
     have hrun:=run_append_grow (P:=P) (w:=w) t ty e i (C.T e).zero hu hi hiz ⟨b,0,none⟩ es.length cap olds (by rw[o5,his,hk']) holds a new.length c2 news (by rw[h1,his,hk']) h2 (by omega) (by omega)
      (by rw[hib];exact growslice_fits (by omega) hb)
     have hge:=grownCap_ge w (es.length+new.length) cap e
     have hcm:=grownCap_le_maxLen w (es.length+new.length) cap e (by simp only[maxLen];omega)
     have hgd:Good C w (S.del b):=hg.mk (hg.1.del b) (Adv.del b)
     obtain⟨g1,g2,g3,g4⟩:=grown_sound hgd (e:=e) (k:=k) (m:=es.length+new.length) (cap:=grownCap w (es.length+new.length) cap e) (rows:=es++new) (vs:=olds++news)
      (rest:=(Builtin.zeroCells (C.T e).zero.cells (grownCap w (es.length+new.length) cap e-(es.length+new.length))).toList)
      (cur:=olds.toArray++news.toArray++Builtin.zeroCells (C.T e).zero.cells (grownCap w (es.length+new.length) cap e-(es.length+new.length))) (by simp)
      (fun r hr=>by
        rcases List.mem_append.1 hr with hr | hr
        ·exact heslen r hr
        ·exact hnewlen r hr)
      (by rw[List.flatten_append];exact RelL.append (RelL.mono (Adv.del b) _ _ o1) (RelL.mono (Adv.del b) _ _ h4))
      (fun u hu'=>by
        rcases List.mem_append.1 hu' with hu' | hu'
        ·exact o3 u hu'
        ·exact h3 u hu')
      (by rw[List.length_append,o5,h1,Nat.add_mul]) hge hcm
      (by rw[Array.length_toList,size_zeroCells,hzs,hk']) (zeroCells_one hz1 _) (by simp)
     exact⟨_,_,_,_,h _ g1,g4,g2,(Adv.del b).trans g3,hrun⟩
  ·exact absurd rfl (hp _ _ _)
  ·-- onto a row without room
   rename_i k es
   rw[when_iff] at h;obtain⟨hkk,hb,h⟩:=h;have hkk:=Nat.eq_of_beq_eq_true hkk;subst hkk;have hnle:=hbytes _ hb;have hx':=hx;simp only[Rel,Sh.mayNil,Bool.false_eq_true,reduceCtorEq,false_and,false_or] at hx;obtain⟨b,off,cap,rfl,hlc,hmax,hcap,hrows⟩:=hx;have hcap:cap=es.length:=hcap;subst hcap;obtain⟨olds,o1,o2,o3,o4,o5⟩:=RelRows.cells hrows;have heslen:∀ r∈es,r.length=k:=RelRows.lens hrows
   split at h
   ·rcases hsrc with ⟨_,base,c2,rfl⟩ | ⟨a,c2,news,rfl,h1,_⟩
    ·exact⟨_,_,w,S,h,hx',hg,Adv.refl w S,append_nothing hT hk hke _ _ _ hlc base c2⟩
    ·exact⟨_,_,w,S,h,hx',hg,Adv.refl w S,append_nothing hT hk hke _ _ _ hlc (some a) c2⟩
   ·rename_i r rs
    rcases hsrc with ⟨hn,_⟩ | ⟨a,c2,news,rfl,h1,h2,h3,h4⟩
    ·cases hn
    ·have hm:0<(r::rs).length:=by simp
     generalize hnew:r::rs=new at *;have holds:∀ j v,olds[j]? = some v→w.cell? ((⟨b,off,none⟩:Addr).add j)=some v:=fun j v hj=>by
      rw[Addr.add_lit];exact o2 j v hj
     have hrun:=run_append_grow (P:=P) (w:=w) t ty e i (C.T e).zero hu hi hiz ⟨b,off,none⟩ es.length es.length olds (by rw[o5,his,hk']) holds a new.length c2 news (by rw[h1,his,hk']) h2 (by omega) (by omega)
      (by rw[hib];exact growslice_fits (by omega) hb)
     have hge:=grownCap_ge w (es.length+new.length) es.length e
     have hcm:=grownCap_le_maxLen w (es.length+new.length) es.length e (by simp only[maxLen];omega)
     obtain⟨g1,g2,g3,g4⟩:=grown_sound hg (e:=e) (k:=k) (m:=es.length+new.length) (cap:=grownCap w (es.length+new.length) es.length e) (rows:=es++new) (vs:=olds++news)
      (rest:=(Builtin.zeroCells (C.T e).zero.cells (grownCap w (es.length+new.length) es.length e-(es.length+new.length))).toList)
      (cur:=olds.toArray++news.toArray++Builtin.zeroCells (C.T e).zero.cells (grownCap w (es.length+new.length) es.length e-(es.length+new.length))) (by simp)
      (fun r hr=>by
        rcases List.mem_append.1 hr with hr | hr
        ·exact heslen r hr
        ·exact hnewlen r hr)
      (by rw[List.flatten_append];exact RelL.append o1 h4)
      (fun u hu'=>by
        rcases List.mem_append.1 hu' with hu' | hu'
        ·exact o3 u hu'
        ·exact h3 u hu')
      (by rw[List.length_append,o5,h1,Nat.add_mul]) hge hcm
      (by rw[Array.length_toList,size_zeroCells,hzs,hk']) (zeroCells_one hz1 _) (by simp)
     exact⟨_,_,_,_,h _ g1,g4,g2,g3,hrun⟩
  ·exact h.elim
 ·exact h.elim
theorem aAppend_sound(hT:TyOk P C){w:World}{S:St}(hg:Good C w S){t ty:TypeId}{p q:AV}{x y:Value}(hx:Rel w (rdOf S) p x)(hy:Rel w (rdOf S) q y){K:AV→St→Prop}(h:aAppend C t p q S K) :
 ∃ z v w' S',K z S'∧Rel w' (rdOf S') z v∧Good C w' S'∧Adv w S w' S'∧(Builtin.append_ #[t,t] ty #[x,y]).run P w=.ok v w':=by
 by_cases hp:∃ b k es,p=.sl (.acc b) k es
 ·obtain⟨b,k,es,rfl⟩:=hp;have h':=h;unfold aAppend at h
  split at h
  case h_2=>exact h.elim
  rename_i e hk
  rw[when_iff] at h;obtain⟨hke',h⟩:=h;have hx':=hx;simp only[Rel] at hx
  split at h
  ·-- nothing
   simp only[Rel] at hy;subst hy;have hke:known C e=true:=by simp only[Bool.and_eq_true] at hke';exact hke'.1
   rcases hx with ⟨_,_,hz⟩ | ⟨b1,off,cap,rfl,hlc,_⟩
   ·obtain rfl:=hz.acc;exact⟨_,_,w,S,h,hx',hg,Adv.refl w S,append_nothing hT hk hke none 0 0 (Nat.le_refl _) none 0⟩
   ·exact⟨_,_,w,S,h,hx',hg,Adv.refl w S,append_nothing hT hk hke _ _ _ hlc none 0⟩
  ·rename_i sh2 k' new
   have hke:known C e=true:=by simp only[Bool.and_eq_true] at hke';exact hke'.1
   have hsrc:=src_cells hy
   rw[when_iff] at h;obtain⟨hk',h⟩:=h;simp only[when_iff] at h;obtain⟨hkk,⟨hSb,hb⟩,h⟩:=h;have hkk':=Nat.eq_of_beq_eq_true hkk;subst hkk'
   split at h
   ·rcases hx with ⟨_,_,hz⟩ | ⟨b1,off,cap,rfl,hlc,_⟩
    ·obtain rfl:=hz.acc
     rcases hsrc with ⟨_,base,c2,rfl⟩ | ⟨a,c2,news,rfl,h1,_⟩
     ·exact⟨_,_,w,S,h,hx',hg,Adv.refl w S,append_nothing hT hk hke none 0 0 (Nat.le_refl _) base c2⟩
     ·exact⟨_,_,w,S,h,hx',hg,Adv.refl w S,append_nothing hT hk hke none 0 0 (Nat.le_refl _) (some a) c2⟩
    ·rcases hsrc with ⟨_,base,c2,rfl⟩ | ⟨a,c2,news,rfl,h1,_⟩
     ·exact⟨_,_,w,S,h,hx',hg,Adv.refl w S,append_nothing hT hk hke _ _ _ hlc base c2⟩
     ·exact⟨_,_,w,S,h,hx',hg,Adv.refl w S,append_nothing hT hk hke _ _ _ hlc (some a) c2⟩
   ·rename_i r rs
    have ho:∀ {v:Value} {w':World} {S':St} {b':Nat} {es':List (List AV)},Rel w' (rdOf S') (.sl (.own b') k (es'++(r::rs))) v→Rel w' (rdOf S') (.sl (.acc b') k (es'++(r::rs))) v:=fun {v w' S' b' es'} hr=>by
     simp only[Rel] at hr ⊢
     rcases hr with ⟨hh,_⟩ | ⟨b,off,cap,h1,h2,h3,h4,h5⟩
     ·cases hh
     ·exact .inr ⟨b,off,cap,h1,h2,h3,⟨by rw[List.length_append,List.length_cons];omega,h4⟩,h5⟩
    by_cases hes:es=[]
    ·subst hes
     rcases hx with ⟨_,_,hz⟩ | ⟨b1,off,cap,rfl,hlc,hmax,⟨h0,_⟩,hrows⟩
     ·obtain rfl:=hz.acc;have hh:aAppend C t .nils (.sl sh2 k (r::rs)) S (fun z S'=>∃ b',S b'=none∧z=.sl (.own b') k (r::rs)∧S'=S.upd b' (.tip e k (r::rs).length)):=by
       unfold aAppend;simp only[hk,when_iff];refine⟨hke',hk',by simpa using hb,fun b' hb'=>⟨b',hb',rfl,rfl⟩⟩
      obtain⟨z,v,w',S',⟨b',m1,rfl,rfl⟩,m2,m3,m4,m5⟩:=aAppend_sound' (P:=P) hT hg (ty:=ty) (p:=.nils) (x:=.slice none 0 0) (by simp) (by simp only[Rel]) hy hh
      exact⟨_,v,w',_,h S (fun _=>rfl) (fun hn=>absurd rfl hn) b' m1,ho (es':=[]) (by simpa only[List.nil_append,List.length_nil,Nat.zero_add] using m2),by simpa only[List.length_nil,Nat.zero_add] using m3,by simpa only[List.length_nil,Nat.zero_add] using m4,m5⟩
     ·simp at h0
    ·have hown:Rel w (rdOf S) (.sl (.own b) k es) x:=by
      simp only[Rel]
      rcases hx with ⟨_,hh,_⟩ | ⟨b1,off,cap,h1,h2,h3,h4,h5⟩
      ·exact absurd hh hes
      ·exact .inr ⟨b1,off,cap,h1,h2,h3,h4.2,h5⟩
     have hh:aAppend C t (.sl (.own b) k es) (.sl sh2 k (r::rs)) S (fun z S'=>∃ b',(S.del b) b'=none∧z=.sl (.own b') k (es++(r::rs))∧S'=(S.del b).upd b' (.tip e k (es.length+(r::rs).length))):=by
      unfold aAppend;simp only[hk,when_iff];exact⟨hke',hk',hkk,⟨hSb hes,hb⟩,fun b' hb'=>⟨b',hb',rfl,rfl⟩⟩
     obtain⟨z,v,w',S',⟨b',m1,rfl,rfl⟩,m2,m3,m4,m5⟩:=aAppend_sound' (P:=P) hT hg (ty:=ty) (p:=.sl (.own b) k es) (by simp) hown hy hh
     exact⟨_,v,w',_,h (S.del b) (fun hn=>absurd hn hes) (fun _=>rfl) b' m1,ho m2,m3,m4,m5⟩
  ·exact h.elim
 ·exact aAppend_sound' hT hg (fun b k es hh=>hp ⟨b,k,es,hh⟩) hx hy h
end
end Go.Proofs.YtjpboanohpaibaaGreatDoor.Aw

/- The abstract walk is sound: maps. No condition. The abstract walk is sound: append of whatever source (a string's bytes, -/
import Derived.Test.YtjpboanohpaibaaGreatDoorPat2
import Derived.Maps.RangeRun
import Derived.MapKept
import Derived.Deep.AppendSrc
import Derived.Laws.IdiomStrings
import Derived.Laws.MakeOwn
import Derived.Lib.OthersKept
set_option linter.all false
namespace Go.Proofs.YtjpboanohpaibaaGreatDoor.Aw
open Go Go.RowKit
section
variable {P:Program} {C:Cx}
def kFits(d:TypeDesc)(p:AV):Prop:=match d,p with | .int _,.int _ _=>True | .string,.str _=>True | _,_=>False
theorem keyEq_sound{w:World}{rd}{d:TypeDesc}{p q:AV}{x y:Value}(hd:(∃ k,d=.int k)∨d=.string)(hk:kFits d p)(hx:Rel w rd p x)(hy:Rel w rd q y){b:Bool}(h:keyEq p q=some b):Instr.sameNow d x y=some b:=by
 unfold keyEq at h
 split at h
 ·rename_i k a k' c
  simp only[Rel] at hx hy;subst hx hy
  split at h
  ·rename_i hkk
   have hkk:=of_decide_eq_true hkk
   subst hkk;simp only[Option.some.injEq] at h
   rcases hd with ⟨kk,rfl⟩ | rfl
   ·simp[Instr.sameNow,h]
   ·exact hk.elim
  ·cases h
 ·rename_i a c
  simp only[Rel] at hx hy;subst hx hy;simp only[Option.some.injEq] at h
  rcases hd with ⟨kk,rfl⟩ | rfl
  ·exact hk.elim
  ·simp only[Instr.sameNow];rw[← h]
   by_cases hac:a=c
   ·subst hac;simp;show(a.data == a.data)=true;simp
   ·have:¬ a.data=c.data:=fun hh=>hac (by cases a;cases c;simp_all)
    simp[hac];show(a.data == c.data)=false;simpa using this
 ·cases h
theorem aFindK_sound{w:World}{rd}{d:TypeDesc}{p:AV}{x:Value}(hd:(∃ k,d=.int k)∨d=.string)(hk:kFits d p)(hx:Rel w rd p x){K:AV→Prop}{Kn:Prop} :
 ∀ (es:List (AV×AV)) (ms:List MapEntry) (i:Nat),RelL w rd (es.map (·.1)) (ms.map (·.key))→RelL w rd (es.map (·.2)) (ms.map (·.val))→aFindK p es K Kn→
  (∃ j v u,Instr.findNow d x ms i=some (some (j,u))∧K v∧Rel w rd v u)∨(Instr.findNow d x ms i=some none∧Kn)
 | [],ms,i,h1,h2,h=>by
  simp only[List.map_nil,RelL] at h1;have:ms=[]:=by simpa using h1
  subst this;exact .inr ⟨rfl,h⟩
 | (k0,v0)::r,ms,i,h1,h2,h=>by
  simp only[List.map_cons,RelL] at h1 h2;obtain⟨u,us,e1,h3,h4⟩:=h1;obtain⟨u',us',e2,h5,h6⟩:=h2
  cases ms with
  | nil=>simp at e1
  | cons m ms=>
    simp only[List.map_cons,List.cons.injEq] at e1 e2;obtain⟨rfl,rfl⟩:=e1;obtain⟨rfl,rfl⟩:=e2;unfold aFindK at h
    split at h
    ·rename_i b hb
     have hs:=keyEq_sound hd hk hx h3 hb
     rw[split_iff] at h;unfold Instr.findNow;rw[hs]
     cases b with
     | true=>exact .inl ⟨i,v0,_,rfl,h.1 rfl,h5⟩
     | false=>exact aFindK_sound hd hk hx r ms (i+1) h4 h6 (h.2 rfl)
    ·exact h.elim
theorem aSetK_sound{w:World}{rd}{d:TypeDesc}{p v:AV}{x:Value}(hd:(∃ k,d=.int k)∨d=.string)(hk:kFits d p)(hx:Rel w rd p x) :
 ∀ (es:List (AV×AV)) (ms:List MapEntry) (i:Nat) {K:List (AV×AV)→Prop},RelL w rd (es.map (·.1)) (ms.map (·.key))→aSetK p v es K→
  ∃ es',K es'∧((∃ j u,Instr.findNow d x ms i=some (some (i+j,u))∧j<ms.length∧es'=es.set j (p,v)∧∃ k0 m0,(es.map (·.1))[j]? = some k0∧ms[j]? = some m0∧keyEq p k0=some true)∨(Instr.findNow d x ms i=some none∧es'=es++[(p,v)]))
 | [],ms,i,K,h1,h=>by
  simp only[List.map_nil,RelL] at h1;have:ms=[]:=by simpa using h1
  subst this;exact⟨_,h,.inr ⟨rfl,rfl⟩⟩
 | (k0,v0)::r,ms,i,K,h1,h=>by
  simp only[List.map_cons,RelL] at h1;obtain⟨u,us,e1,h3,h4⟩:=h1
  cases ms with
  | nil=>simp at e1
  | cons m ms=>
    simp only[List.map_cons,List.cons.injEq] at e1;obtain⟨rfl,rfl⟩:=e1;unfold aSetK at h
    split at h
    ·rename_i b hb
     have hs:=keyEq_sound hd hk hx h3 hb
     rw[split_iff] at h;unfold Instr.findNow;rw[hs]
     cases b with
     | true=>exact⟨_,h.1 rfl,.inl ⟨0,_,rfl,by simp,by simp,k0,m,by simp,by simp,hb⟩⟩
     | false=>
       obtain⟨es',k1,k2⟩:=aSetK_sound hd hk hx r ms (i+1) h4 (h.2 rfl);refine⟨_,k1,?_⟩
       rcases k2 with ⟨j,u,m1,m2,rfl,k0',m0,m3,m4,m5⟩ | ⟨m1,rfl⟩
       ·exact .inl ⟨j+1,u,by rw[m1];congr 2;simp;omega,by simpa using m2,by simp,k0',m0,by simpa using m3,by simpa using m4,m5⟩
       ·exact .inr ⟨m1,by simp⟩
    ·exact h.elim
def setMap(w:World)(b:Nat)(ms:Array MapEntry)(clock:Nat):World:={ w with heap:=w.heap.setIfInBounds b (.map ms clock) }
theorem Adv.setMap{w:World}{S:St}{b:Nat}{es:List (AV×AV)}{ms:Array MapEntry}{clock:Nat}(hS:S b=some (.mapo es))(hb:w.heap[b]? = some (.map ms clock))(es':List (AV×AV))(ms':Array MapEntry)(clock':Nat) :
 Adv w S (setMap w b ms' clock') (S.upd b (.mapo es')):=by
 have hother:∀ x,x≠b→(Aw.setMap w b ms' clock').heap[x]? = w.heap[x]?:=fun x hx=>by simp[Aw.setMap,Array.getElem?_setIfInBounds_ne (Ne.symm hx)]
 refine⟨rfl,rfl,rfl,by simp[Aw.setMap],fun x hx hn=>?_,fun x off hx hr=>?_,fun x e' n hx=>?_⟩
 ·have hne:x≠b:=St.ne_of' hn hS
  exact⟨by rw[St.upd_ne _ _ _ _ hne];exact hn,hother x hne⟩
 ·have hne:x≠b:=by rintro rfl;simp only[rdOf,hS] at hr
  refine⟨by simp only[rdOf,St.upd_ne _ _ _ _ hne];exact hr,cell_of_block (hother x hne) off⟩
 ·by_cases hne:x=b
  ·subst hne;simp only[World.shape?,hb] at hx
   cases hx
  ·rw[shape_of_block (hother x hne)];exact hx
theorem Good.setMap{w:World}{S:St}(hg:Good C w S){b:Nat}{es:List (AV×AV)}{ms:Array MapEntry}{clock:Nat}(hS:S b=some (.mapo es))(hb:w.heap[b]? = some (.map ms clock)){es':List (AV×AV)}{ms':Array MapEntry}{clock':Nat}
 (h1:RelL w (rdOf S) (es'.map (·.1)) (ms'.toList.map (·.key))) (h2:RelL w (rdOf S) (es'.map (·.2)) (ms'.toList.map (·.val))) (h3:BornOk ms' clock'):Good C (setMap w b ms' clock') (S.upd b (.mapo es')):=by
 have hadv:=Adv.setMap hS hb es' ms' clock'
 refine hg.mk (fun x o ho=>?_) hadv
 by_cases hx:x=b
 ·subst hx;rw[St.upd_same] at ho
  cases ho
  exact⟨ms',clock',(MapKept.heap_set hb).1,RelL.mono hadv _ _ h1,RelL.mono hadv _ _ h2,h3⟩
 ·rw[St.upd_ne _ _ _ _ hx] at ho;refine OwnOk.mono hadv ?_ (hg.1 x o ho)
  simp[Aw.setMap,Array.getElem?_setIfInBounds_ne (Ne.symm hx)]
theorem keyOk_kind(hT:TyOk P C){kt:TypeId}{p:AV}(h:keyOk C kt p=true){w:World}{rd}{x:Value}(hx:Rel w rd p x):∃ d,P.underlying kt=some d∧((∃ k,d=.int k)∨d=.string)∧kFits d p∧MapKept.IsKey d x:=by
 unfold keyOk at h
 split at h
 ·rename_i k k' n hk
  have h:=of_decide_eq_true h
  subst h;simp only[Rel] at hx;subst hx;exact⟨_,und_int hT hk,.inl ⟨_,rfl⟩,trivial,by simp[MapKept.IsKey]⟩
 ·rename_i s hk
  simp only[Rel] at hx;subst hx;exact⟨_,und_str hT hk,.inr rfl,trivial,by simp[MapKept.IsKey]⟩
 ·cases h
theorem keyEq_same{w:World}{rd}{p q:AV}{x y:Value}(hx:Rel w rd p x)(hy:Rel w rd q y)(h:keyEq p q=some true):x=y:=by
 unfold keyEq at h
 split at h
 ·simp only[Rel] at hx hy;subst hx hy
  split at h
  ·rename_i hkk
   have hkk:=of_decide_eq_true hkk
   subst hkk;simp only[Option.some.injEq,beq_iff_eq] at h;rw[h]
  ·cases h
 ·simp only[Rel] at hx hy;subst hx hy;simp only[Option.some.injEq,decide_eq_true_eq] at h;rw[h]
 ·cases h
theorem map_modify_key(ms:List MapEntry)(j:Nat)(x y:Value):(ms.modify j fun e=>{ e with key:=x,val:=y }).map (·.key)=(ms.map (·.key)).set j x:=by
 apply List.ext_getElem?
 intro i;simp only[List.getElem?_map,List.getElem?_modify,List.getElem?_set]
 by_cases h:j=i
 ·subst h;simp only[if_true]
  cases e:ms[j]? with
  | none=>simp;exact List.getElem?_eq_none_iff.1 e
  | some m=>
    have:j<ms.length:=by
     rcases Nat.lt_or_ge j ms.length with h | h
     ·exact h
     ·rw[List.getElem?_eq_none h] at e;cases e
    simp[this]
 ·simp[h]
theorem map_modify_val(ms:List MapEntry)(j:Nat)(x y:Value):(ms.modify j fun e=>{ e with key:=x,val:=y }).map (·.val)=(ms.map (·.val)).set j y:=by
 apply List.ext_getElem?
 intro i;simp only[List.getElem?_map,List.getElem?_modify,List.getElem?_set]
 by_cases h:j=i
 ·subst h;simp only[if_true]
  cases e:ms[j]? with
  | none=>simp;exact List.getElem?_eq_none_iff.1 e
  | some m=>
    have:j<ms.length:=by
     rcases Nat.lt_or_ge j ms.length with h | h
     ·exact h
     ·rw[List.getElem?_eq_none h] at e;cases e
    simp[this]
 ·simp[h]
theorem map_modify_born(ms:List MapEntry)(j:Nat)(x y:Value):(ms.modify j fun e=>{ e with key:=x,val:=y }).map (·.born)=ms.map (·.born):=by
 apply List.ext_getElem?
 intro i;simp only[List.getElem?_map,List.getElem?_modify]
 by_cases h:j=i
 ·subst h
  cases e:ms[j]? <;> simp
 ·simp[h]
theorem BornOk.modify{ms:Array MapEntry}{clock:Nat}(h:BornOk ms clock)(j:Nat)(x y:Value):BornOk (ms.modify j fun e=>{ e with key:=x,val:=y }) clock:=by
 have hm:=map_modify_born ms.toList j x y
 refine⟨fun e he=>?_,by rw[Array.toList_modify,hm];exact h.2⟩
 rw[Array.toList_modify] at he;have:e.born∈ms.toList.map (·.born):=by rw[← hm];exact List.mem_map.2 ⟨e,he,rfl⟩
 obtain⟨e',h1,h2⟩:=List.mem_map.1 this;rw[← h2];exact h.1 e' h1
theorem BornOk.push{ms:Array MapEntry}{clock:Nat}(h:BornOk ms clock)(x y:Value):BornOk (ms.push { key:=x,val:=y,born:=clock }) (clock+1):=by
 refine⟨fun e he=>?_,?_⟩
 ·simp only[Array.toList_push,List.mem_append,List.mem_singleton] at he
  rcases he with he | rfl
  ·exact Nat.lt_succ_of_lt (h.1 e he)
  ·exact Nat.lt_succ_self _
 ·simp only[Array.toList_push,List.map_append,List.map_cons,List.map_nil];refine List.nodup_append.2 ⟨h.2,by simp,fun a ha b hb=>?_⟩
  obtain⟨e,he,rfl⟩:=List.mem_map.1 ha;have:=h.1 e he
  simp at hb
  omega
theorem mapUpdate_sound(hT:TyOk P C){w:World}{S:St}(hg:Good C w S){t kt et r:Nat}(hk:(C.T t).kind=.map kt et){kk vv:AV}{x y:Value}(hx:Rel w (rdOf S) kk x)(hy:Rel w (rdOf S) vv y)(hok:keyOk C kt kk=true)
 {es:List (AV×AV)} (hS:S r=some (.mapo es)) {K:List (AV×AV)→Prop} (h:aSetK kk vv es K) :
 ∃ es' w',K es'∧Good C w' (S.upd r (.mapo es'))∧Adv w S w' (S.upd r (.mapo es'))∧(Instr.mapUpdate t (.map (some r)) x y).run P w=.ok () w':=by
 have hu:=und_map hT hk
 obtain⟨d,hd,hd2,hd3,hd4⟩:=keyOk_kind (P:=P) hT hok hx;obtain⟨ms,clock,hb,h1,h2,hborn⟩:=hg.1 r _ hS;obtain⟨es',k1,k2⟩:=aSetK_sound hd2 hd3 hx es ms.toList 0 h1 h;have hgo:=MapKept.run_getObj_map (P:=P) hb;have hck:(Instr.checkKey false 10000 kt x).run P w=.ok () w:=MapKept.run_checkKey hd hd4 false 9999
 rcases k2 with ⟨j,u,m1,m2,rfl,k0,m0,m3,m4,m5⟩ | ⟨m1,rfl⟩
 ·have hf:=MapKept.run_findKey (P:=P) (w:=w) hd m1
  simp only[Nat.zero_add] at hf;have hkey:m0.key=x:=by
   obtain⟨v,hv,hr⟩:=RelL.get h1 j k0 m3;have:m0.key=v:=by
    rw[List.getElem?_map,m4] at hv
    simpa using hv
   rw[this];exact(keyEq_same hx hr m5).symm
  have hkt:=MapKept.run_keyThatStays (P:=P) (w:=w) hd4
  have hm4:ms[j]? = some m0:=by simpa using m4
  refine⟨_,setMap w r (ms.modify j fun e=>{ e with key:=x,val:=y }) clock,k1,hg.setMap hS hb ?_ ?_ (hborn.modify j x y),Adv.setMap hS hb _ _ _,?_⟩
  ·rw[List.map_set,Array.toList_modify,map_modify_key];exact RelL.set h1 j _ _ hx
  ·rw[List.map_set,Array.toList_modify,map_modify_val];exact RelL.set h2 j _ _ hy
  ·simp only[Instr.mapUpdate,Sem.run_bind,run_underlying hu,Result.andThen_ok,hgo,hck,hf,hm4,Option.map_some,Option.getD_some,hkey,hkt,MapKept.run_setObj_map (P:=P) _ hb];rfl
 ·have hf:=MapKept.run_findKey (P:=P) (w:=w) hd m1
  refine⟨_,setMap w r (ms.push { key:=x,val:=y,born:=clock }) (clock+1),k1,hg.setMap hS hb ?_ ?_ (hborn.push x y),Adv.setMap hS hb _ _ _,?_⟩
  ·simp only[List.map_append,Array.toList_push,List.map_cons,List.map_nil];exact RelL.append h1 (by simp only[RelL];exact⟨_,_,rfl,hx,rfl⟩)
  ·simp only[List.map_append,Array.toList_push,List.map_cons,List.map_nil];exact RelL.append h2 (by simp only[RelL];exact⟨_,_,rfl,hy,rfl⟩)
  ·simp only[Instr.mapUpdate,Sem.run_bind,run_underlying hu,Result.andThen_ok,hgo,hck,hf,MapKept.run_setObj_map (P:=P) _ hb];rfl
theorem lookup_sound(hT:TyOk P C){w:World}{S:St}(hg:Good C w S){t kt et:Nat}(hk:(C.T t).kind=.map kt et){kk:AV}{x:Value}(hx:Rel w (rdOf S) kk x)(hok:keyOk C kt kk=true)(hke:known C et=true)
 {m:Value} {es:List (AV×AV)} (hm:(m=.map none∧es=[])∨∃ r,m=.map (some r)∧S r=some (.mapo es)) {K:AV→Prop} {Kn:Prop} (h:aFindK kk es K Kn) (ok:Bool) :
 (∃ v u,K v∧Rel w (rdOf S) v u∧(Instr.lookup t m x ok).run P w=.ok (if ok then .tuple #[u,.bool true] else u) w)∨(Kn∧(Instr.lookup t m x ok).run P w=.ok (if ok then .tuple #[(C.T et).zero,.bool false] else (C.T et).zero) w):=by
 have hu:=und_map hT hk
 obtain⟨d,hd,hd2,hd3,hd4⟩:=keyOk_kind (P:=P) hT hok hx;obtain⟨z1,_⟩:=zero_sound (P:=P) hT hke w (rdOf S)
 rcases hm with ⟨rfl,rfl⟩ | ⟨r,rfl,hS⟩
 ·have hck:∀ e,(Instr.checkKey e 10000 kt x).run P w=.ok () w:=fun e=>MapKept.run_checkKey hd hd4 e 9999
  have hf:=MapKept.run_findKey (P:=P) (w:=w) (k:=x) (l:=[]) (a:=none) hd (by rfl)
  refine .inr ⟨h,?_⟩;simp only[Instr.lookup,Sem.run_bind,run_underlying hu,Result.andThen_ok,Sem.run_pure,hck,hf,z1]
 ·obtain⟨ms,clock,hb,h1,h2,hborn⟩:=hg.1 r _ hS;have hgo:=MapKept.run_getObj_map (P:=P) hb;have hck:∀ e,(Instr.checkKey e 10000 kt x).run P w=.ok () w:=fun e=>MapKept.run_checkKey hd hd4 e 9999
  rcases aFindK_sound hd2 hd3 hx es ms.toList 0 h1 h2 h with ⟨j,v,u,m1,m2,m3⟩ | ⟨m1,m2⟩
  ·have hf:=MapKept.run_findKey (P:=P) (w:=w) hd m1
   refine .inl ⟨v,u,m2,m3,?_⟩;simp only[Instr.lookup,Sem.run_bind,run_underlying hu,Result.andThen_ok,Sem.run_pure,hgo,hck,hf]
  ·have hf:=MapKept.run_findKey (P:=P) (w:=w) hd m1
   refine .inr ⟨m2,?_⟩;simp only[Instr.lookup,Sem.run_bind,run_underlying hu,Result.andThen_ok,Sem.run_pure,hgo,hck,hf,z1]
theorem Adv.setMiter{w:World}{S:St}{b:Nat}{cur:Option (AV×AV)}{left:List (AV×AV)}{m:Option Nat}{since last:Nat}{seen:Array Nat}(hS:S b=some (.miter cur left))(hb:w.heap[b]? = some (.mapIter m since seen last))(cur':Option (AV×AV))(left':List (AV×AV))(o:Obj)(ho:∀ cs e f,o≠.cells cs e f) :
 Adv w S { w with heap:=w.heap.setIfInBounds b o } (S.upd b (.miter cur' left')):=by
 have hother:∀ x,x≠b→(w.heap.setIfInBounds b o)[x]? = w.heap[x]?:=fun x hx=>by simp[Array.getElem?_setIfInBounds_ne (Ne.symm hx)]
 refine⟨rfl,rfl,rfl,by simp,fun x hx hn=>?_,fun x off hx hr=>?_,fun x e' n hx=>?_⟩
 ·have hne:x≠b:=St.ne_of' hn hS
  exact⟨by rw[St.upd_ne _ _ _ _ hne];exact hn,hother x hne⟩
 ·have hne:x≠b:=by rintro rfl;simp only[rdOf,hS] at hr
  refine⟨by simp only[rdOf,St.upd_ne _ _ _ _ hne];exact hr,cell_of_block (hother x hne) off⟩
 ·by_cases hne:x=b
  ·subst hne;simp only[World.shape?,hb] at hx
   cases hx
  ·rw[shape_of_block (w':={ w with heap:=w.heap.setIfInBounds b o }) (hother x hne)];exact hx
theorem filter_push(l:List MapEntry)(seen:Array Nat)(e:MapEntry)(hn:(l.map (·.born)).Nodup):∀ pre post,(l.filter fun x=>!seen.contains x.born)=pre++e::post→(l.filter fun x=>!(seen.push e.born).contains x.born)=pre++post:=by
 intro pre post h;have h1:(l.filter fun x=>!(seen.push e.born).contains x.born)=(l.filter fun x=>!seen.contains x.born).filter fun x=>x.born != e.born:=by
  rw[List.filter_filter]
  congr 1
  funext x
  simp only[Array.contains_push]
  cases seen.contains x.born<;>simp[bne]
 rw[h1,h];have hsub:((pre++e::post).map (·.born)).Nodup:=by
  rw[← h];exact List.Nodup.sublist (List.Sublist.map _ List.filter_sublist) hn
 simp only[List.map_append,List.map_cons] at hsub;have hnd:=List.nodup_append.1 hsub;have hc:=List.nodup_cons.1 hnd.2.1;rw[List.filter_append,List.filter_cons];have e1:(pre.filter fun x=>x.born != e.born)=pre:=List.filter_eq_self.2 fun x hx=>by
  have:=hnd.2.2 x.born (List.mem_map.2 ⟨x,hx,rfl⟩) e.born (by simp)
  simpa using this
 have e2:(post.filter fun x=>x.born != e.born)=post:=List.filter_eq_self.2 fun x hx=>by
  have:x.born≠e.born:=fun hh=>hc.1 (by rw[← hh];exact List.mem_map.2 ⟨x,hx,rfl⟩)
  simpa using this
 rw[e1,e2]
 simp
theorem next_map_sound{w:World}{S:St}(hg:Good C w S){b:Nat}{cur:Option (AV×AV)}{left:List (AV×AV)}(hS:S b=some (.miter cur left))(ty:TypeId){K:AV→St→Prop}
 (h0:left=[]→K (.tu [.bool false]) S) (h1:∀ pre kv post,left=pre++kv::post→K (.tu [.bool true,kv.1,kv.2]) (S.upd b (.miter (some kv) (pre++post)))) :
 ∃ z v w' S',K z S'∧Rel w' (rdOf S') z v∧Good C w' S'∧Adv w S w' S'∧(Instr.next (.pointer (some ⟨b,0,none⟩)) false ty).run P w=.ok v w':=by
 obtain⟨m,since,seen,last,hb,hm⟩:=hg.1 b _ hS
 cases m with
 | none=>
   have hl:left=[]:=hm.1
   refine⟨_,.tuple #[.bool false],w,S,h0 hl,by simp[Rel,RelL],hg,Adv.refl w S,?_⟩
   simp[Instr.next,getObj,Sem.run,hb]
 | some r=>
   obtain⟨m1,ms,m2,m3,m4,m5,m6,m7⟩:=hm;subst m3;have hborn:∀ x∈ms.toList,x.born<last:=m4.1
   rcases run_next_at (P:=P) w ty b r last last seen ms last hb m2 hborn (Nat.le_refl _) with ⟨k1,k2⟩ | ⟨e,he,w1,hw1,k2⟩
   ·have hf:(ms.toList.filter fun e=>!seen.contains e.born)=[]:=by
     have:(leftOf ms seen).toList.length=0:=by simpa using k1
     unfold leftOf at this;rw[Array.toList_filter] at this;exact List.eq_nil_of_length_eq_zero this
    rw[hf] at m5;have hl:left=[]:=by
     have:=RelL.length m5
     exact List.eq_nil_of_length_eq_zero (by simpa using this)
    exact⟨_,.tuple #[.bool false],w,S,h0 hl,by simp[Rel,RelL],hg,Adv.refl w S,k2⟩
   ·have he':e∈ms.toList.filter fun e=>!seen.contains e.born:=by
     unfold leftOf at he
     rwa [Array.toList_filter] at he
    obtain⟨vpre,vpost,hsplit⟩:=List.append_of_mem he';have hlen:left.length=(vpre++e::vpost).length:=by
     rw[← hsplit];simpa using RelL.length m5
    have hlt:vpre.length<left.length:=by rw[hlen];simp
    have hleft:left=left.take vpre.length++left[vpre.length]::left.drop (vpre.length+1):=by
     rw[← List.drop_eq_getElem_cons hlt,List.take_append_drop]
    have hgetk:=RelL.get m5 vpre.length left[vpre.length].1 (by simp[hlt])
    have hgetv:=RelL.get m6 vpre.length left[vpre.length].2 (by simp[hlt])
    rw[hsplit] at hgetk hgetv
    simp at hgetk hgetv
    have hgw1:Good C w1 S∧Adv w S w1 S∧w1.heap=w.heap:=by
     rcases hw1 with rfl | rfl
     ·exact⟨hg,Adv.refl _ _,rfl⟩
     ·exact⟨hg.drew,(Adv.refl w S).drew,rfl⟩
    obtain⟨g1,g2,g3⟩:=hgw1;have hb1:w1.heap[b]? = some (.mapIter (some r) last seen last):=by rw[g3];exact hb
    have hadv:=Adv.setMiter hS hb1 (some left[vpre.length]) (left.take vpre.length++left.drop (vpre.length+1)) (.mapIter (some r) last (seen.push e.born) last) (fun _ _ _ h=>by cases h)
    have hbr:r≠b:=fun hh=>by rw[hh,hb] at m2;cases m2
    have hk:=h1 _ _ _ hleft
    refine⟨_,_,_,_,hk,?_,?_,g2.trans hadv,k2⟩
    ·simp only[Rel,RelL];refine⟨_,rfl,_,_,rfl,rfl,_,_,rfl,?_,_,_,rfl,?_,rfl⟩
     ·exact Rel.mono (g2.trans hadv) _ _ hgetk
     ·exact Rel.mono (g2.trans hadv) _ _ hgetv
    ·refine g1.mk (fun x o ho=>?_) hadv
     by_cases hx:x=b
     ·subst hx;rw[St.upd_same] at ho
      cases ho
      refine⟨some r,last,seen.push e.born,last,?_,fun off=>?_,ms,?_,rfl,m4,?_,?_,fun kv hkv=>?_⟩
      ·have:x<w1.heap.size:=lt_of_block hb1
       simp[ChangeMaps.setBlock,this]
      ·simp only[rdOf,St.upd_ne _ _ _ _ hbr];exact m1 off
      ·simp only[ChangeMaps.setBlock];rw[Array.getElem?_setIfInBounds_ne (Ne.symm hbr),g3];exact m2
      ·rw[filter_push ms.toList seen e m4.2 vpre vpost hsplit];rw[hsplit] at m5;rw[List.map_append,List.map_append];refine RelL.append ?_ ?_
       ·have:=RelL.take (RelL.mono (g2.trans hadv) _ _ m5) vpre.length
        rw[List.map_append,List.take_left' (by simp)] at this
        rwa [List.map_take]
       ·have:=RelL.drop (RelL.mono (g2.trans hadv) _ _ m5) (vpre.length+1)
        have e1:((vpre++e::vpost).map (·.key)).drop (vpre.length+1)=vpost.map (·.key):=by
         rw[List.map_append,List.map_cons,← List.singleton_append,← List.append_assoc];exact List.drop_left' (by simp)
        rw[e1] at this
        rwa [List.map_drop]
      ·rw[filter_push ms.toList seen e m4.2 vpre vpost hsplit];rw[hsplit] at m6;rw[List.map_append,List.map_append];refine RelL.append ?_ ?_
       ·have:=RelL.take (RelL.mono (g2.trans hadv) _ _ m6) vpre.length
        rw[List.map_append,List.take_left' (by simp)] at this
        rwa [List.map_take]
       ·have:=RelL.drop (RelL.mono (g2.trans hadv) _ _ m6) (vpre.length+1)
        have e1:((vpre++e::vpost).map (·.val)).drop (vpre.length+1)=vpost.map (·.val):=by
         rw[List.map_append,List.map_cons,← List.singleton_append,← List.append_assoc];exact List.drop_left' (by simp)
        rw[e1] at this
        rwa [List.map_drop]
      ·simp only[Option.some.injEq] at hkv;subst hkv;exact⟨e,(List.mem_filter.1 he').1,by simp,Rel.mono (g2.trans hadv) _ _ hgetk,Rel.mono (g2.trans hadv) _ _ hgetv⟩
     ·rw[St.upd_ne _ _ _ _ hx] at ho;refine OwnOk.mono hadv ?_ (g1.1 x o ho);simp only[ChangeMaps.setBlock];exact Array.getElem?_setIfInBounds_ne (Ne.symm hx)
theorem born_same{l:List MapEntry}(hn:(l.map (·.born)).Nodup){e f:MapEntry}(he:e∈l)(hf:f∈l)(h:e.born=f.born):e=f:=by
 induction l with
 | nil=>cases he
 | cons x l ih=>
   simp only[List.map_cons] at hn;have hc:=List.nodup_cons.1 hn
   rcases List.mem_cons.1 he with he' | he'<;>rcases List.mem_cons.1 hf with hf' | hf'
   ·rw[he',hf']
   ·exact absurd (by rw[← he',h];exact List.mem_map_of_mem hf') hc.1
   ·exact absurd (by rw[← hf',← h];exact List.mem_map_of_mem he') hc.1
   ·exact ih hc.2 he' hf'
theorem entry_map_sound{w:World}{S:St}(hg:Good C w S){b:Nat}{kv:AV×AV}{left:List (AV×AV)}(hS:S b=some (.miter (some kv) left)) :
 ∃ v,Rel w (rdOf S) (.tu [kv.1,kv.2]) v∧(Instr.entry (.pointer (some ⟨b,0,none⟩))).run P w=.ok v w:=by
 obtain⟨m,since,seen,last,hb,hm⟩:=hg.1 b _ hS
 cases m with
 | none=>exact absurd hm.2 (by simp)
 | some r=>
   obtain⟨m1,ms,m2,m3,m4,m5,m6,m7⟩:=hm;subst m3;obtain⟨e,e1,e2,e3,e4⟩:=m7 kv rfl;refine⟨.tuple #[e.key,e.val],by simp only[Rel,RelL];exact⟨_,rfl,_,_,rfl,e3,_,_,rfl,e4,rfl⟩,?_⟩
   have hf:ms.find? (·.born == e.born)=some e:=by
    rw[← Array.find?_toList]
    cases hx:ms.toList.find? (·.born == e.born) with
    | none=>
      have:=List.find?_eq_none.1 hx e e1
      simp at this
    | some f=>
      have hp:=List.find?_some hx
      have hmem:=List.mem_of_find?_eq_some hx
      rw[born_same m4.2 hmem e1 (by simpa using hp)]
   simp only[Instr.entry,getObj,Sem.run_bind,Sem.run,hb,m2,Result.andThen,e2,bne_self_eq_false,Bool.false_eq_true,if_false,hf];rfl
end
section
variable {P:Program} {C:Cx}
theorem run_append_room_src'(w:World)(t tx ty e:TypeId)(i:TypeInfo)(ht:P.underlying t=some (.slice e))(hi:P.info? e=some i)
 (g sLen sCap:Nat) (cur:Array Value) (hg:w.heap[g]? = some (.cells cur e (0,0))) (x:Value) (n:Nat) (news:List Value) (hs:Src P i.size tx x n news w)
 (hroom:sLen+n≤sCap) (hfit:sLen*i.size+news.length≤cur.size) :
 (Builtin.append_ #[t,tx] ty #[.slice (some ⟨g,0,none⟩) sLen sCap,x]).run P w =
   .ok (.slice (some ⟨g,0,none⟩) (sLen+n) sCap) (w.setRow g (cur.toList.take (sLen*i.size)++news++cur.toList.drop (sLen*i.size+news.length)).toArray):=by
 have hst:=run_storeCells_at P g (sLen*i.size) e news 0 cur w hg (by simpa using hfit) hs.one
 simp only[Nat.add_zero] at hst
 rcases hs.kind with ⟨e',hk⟩ | hk<;>simp[Builtin.append_,run_underlying ht,run_underlying hk,sizeOf,typeInfo,hi,hs.len,hroom,hs.cells,Addr.add_lit,hst]
theorem nil_grow(hT:TyOk P C){w:World}{S:St}(hg:Good C w S){t tx ty e:TypeId}(hk:(C.T t).kind=.slice e)(hke:known C e=true){y:Value}{new:List (List AV)}{news:List Value}
 (hs:Src P (C.T e).size tx y new.length news w) (hr:RelL w (rdOf S) new.flatten news) (hl:∀ r∈new,r.length=(C.T e).size) (hpos:0<(C.T e).bytes) (hlim:new.length*(C.T e).bytes≤140737488355328) (hm:0<new.length) :
 ∃ b v w',S b=none∧Rel w' (rdOf (S.upd b (.tip e (C.T e).size new.length))) (.sl (.own b) (C.T e).size new) v∧Good C w' (S.upd b (.tip e (C.T e).size new.length))∧Adv w S w' (S.upd b (.tip e (C.T e).size new.length))∧
  (Builtin.append_ #[t,tx] ty #[.slice none 0 0,y]).run P w=.ok v w':=by
 have hu:=und_slice hT hk
 obtain⟨i,d,hi,his,hib,hiz,_,_,hzs,hz1⟩:=ty_info hT hke;have hn:new.length≤140737488355328:=Nat.le_trans (Nat.le_mul_of_pos_right _ hpos) hlim;rw[← his] at hs;have hrun:=run_append_grow_src (P:=P) w t tx ty e i (C.T e).zero hu hi hiz none 0 0 [] (by simp[Builtin.firstCells]) y new.length news hs (by omega) (by omega) (by
  rw[hib,Nat.zero_add,nextslicecap_zero hm];omega)
 simp only[Nat.zero_add,List.nil_append] at hrun;have hge:=grownCap_ge w new.length 0 e;have hcm:=grownCap_le_maxLen w new.length 0 e (by simp only[maxLen];omega)
 obtain⟨g1,g2,g3,g4⟩:=grown_sound hg (e:=e) (k:=(C.T e).size) (m:=new.length) (cap:=grownCap w new.length 0 e) (rows:=new) (vs:=news)
  (rest:=(Builtin.zeroCells (C.T e).zero.cells (grownCap w new.length 0 e-new.length)).toList)
  (cur:=news.toArray++Builtin.zeroCells (C.T e).zero.cells (grownCap w new.length 0 e-new.length)) rfl hl hr hs.one (by rw[hs.newsLen,his]) hge hcm
  (by rw[Array.length_toList,size_zeroCells,hzs]) (zeroCells_one hz1 _) (by simp)
 exact⟨_,_,_,g1,g4,g2,g3,hrun⟩
theorem own_grow(hT:TyOk P C){w:World}{S:St}(hg:Good C w S){t tx ty e:TypeId}(hk:(C.T t).kind=.slice e)(hke:known C e=true){b:Nat}{es:List (List AV)}{x:Value}(hx:Rel w (rdOf S) (.sl (.own b) (C.T e).size es) x)
 (hSb:S b=some (.tip e (C.T e).size es.length)) {y:Value} {new:List (List AV)} {news:List Value}
 (hs:Src P (C.T e).size tx y new.length news w) (hr:RelL w (rdOf S) new.flatten news) (hl:∀ r∈new,r.length=(C.T e).size) (hpos:0<(C.T e).bytes) (hlim:(es.length+new.length)*(C.T e).bytes≤140737488355328) :
 ∃ b' v w',(S.del b) b'=none∧Rel w' (rdOf ((S.del b).upd b' (.tip e (C.T e).size (es.length+new.length)))) (.sl (.own b') (C.T e).size (es++new)) v∧Good C w' ((S.del b).upd b' (.tip e (C.T e).size (es.length+new.length)))∧
  Adv w S w' ((S.del b).upd b' (.tip e (C.T e).size (es.length+new.length)))∧(Builtin.append_ #[t,tx] ty #[x,y]).run P w=.ok v w':=by
 have hu:=und_slice hT hk
 obtain⟨i,d,hi,his,hib,hiz,_,_,hzs,hz1⟩:=ty_info hT hke;generalize hkk:(C.T e).size=k at *;have hnle:es.length+new.length≤140737488355328:=Nat.le_trans (Nat.le_mul_of_pos_right _ hpos) hlim;have hx':=hx;simp only[Rel,Sh.mayNil,Bool.false_eq_true,reduceCtorEq,false_and,false_or] at hx;obtain⟨b1,off,cap,rfl,hlc,hmax,⟨hbb,hoff,e',hsh⟩,hrows⟩:=hx;subst hbb;subst hoff;obtain⟨cur,cap',hheap,hc1,hc2,hc3,hc4⟩:=hg.1 b _ hSb;have hcapk:cur.size=cap*k:=by
  simp only[World.shape?,hheap,Option.some.injEq,Prod.mk.injEq] at hsh;exact hsh.2
 obtain⟨olds,o1,o2,o3,o4,o5⟩:=RelRows.cells hrows;have heslen:∀ r∈es,r.length=k:=RelRows.lens hrows;have h1:news.length=new.length*k:=hs.newsLen;have hpre:olds=cur.toList.take (es.length*k):=by
  apply List.ext_getElem?
  intro j
  by_cases hj:j<es.length*k
  ·have hjc:j<cur.size:=by
    rw[hcapk];exact Nat.lt_of_lt_of_le hj (Nat.mul_le_mul_right _ hlc)
   have hjo:olds[j]? = some olds[j]:=List.getElem?_eq_getElem (by rw[o5];exact hj)
   have:=o2 j _ hjo
   rw[Nat.zero_add,cell_of_row w b j cur e (0,0) hheap] at this;rw[hjo,List.getElem?_take,if_pos hj,Array.getElem?_toList,this]
  ·rw[List.getElem?_eq_none (by rw[o5];omega),List.getElem?_take,if_neg hj]
 rw[← his] at hs
 by_cases hroom:es.length+new.length≤cap
 ·have hfit:es.length*i.size+news.length≤cur.size:=by
   rw[h1,his,hcapk,← Nat.add_mul];exact Nat.mul_le_mul_right _ hroom
  have hrun:=run_append_room_src' (P:=P) w t tx ty e i hu hi b es.length cap cur hheap y new.length news hs hroom hfit
  rw[his] at hrun;have hszn:(cur.toList.take (es.length*k)++news++cur.toList.drop (es.length*k+news.length)).toArray.size=cur.size:=by
   simp only[List.size_toArray,List.length_append,List.length_take,List.length_drop,Array.length_toList];rw[his] at hfit;omega
  have hadv:=Adv.setTip (m:=es.length+new.length) hSb (Nat.le_add_right _ _) hheap hszn (fun j hj=>by
   have hjc:j<cur.toList.length:=by
    rw[Array.length_toList,hcapk];exact Nat.lt_of_lt_of_le hj (Nat.mul_le_mul_right _ hlc)
   simp only[List.getElem?_toArray];rw[List.append_assoc,List.getElem?_append_left (by rw[List.length_take];omega),List.getElem?_take,if_pos hj,Array.getElem?_toList])
  have hheap':=setRow_heap w b cur (cur.toList.take (es.length*k)++news++cur.toList.drop (es.length*k+news.length)).toArray e (0,0) hheap
  refine⟨b,_,_,St.del_same S b,?_,hg.mk ?_ hadv,hadv,hrun⟩
  ·simp only[Rel];refine .inr ⟨b,0,cap,by rw[List.length_append],by rw[List.length_append];exact hroom,hmax,?_,?_⟩
   ·exact⟨rfl,rfl,e,by simp only[World.shape?,hheap',hszn,hcapk]⟩
   ·refine RelRows.of_cells (vs:=olds++news) (fun r hr=>?_) ?_ (fun j v hj=>?_) (fun u hu'=>?_) (fun j hj=>?_)
    ·rcases List.mem_append.1 hr with hr | hr
     ·exact heslen r hr
     ·exact hl r hr
    ·rw[List.flatten_append];exact RelL.append (RelL.mono hadv _ _ o1) (RelL.mono hadv _ _ hr)
    ·rw[Nat.zero_add,cell_of_row _ b j _ e (0,0) hheap',List.getElem?_toArray,← hpre];rw[List.getElem?_append_left (by
      rcases Nat.lt_or_ge j (olds++news).length with h | h
      ·exact h
      ·rw[List.getElem?_eq_none h] at hj;cases hj)]
     exact hj
    ·rcases List.mem_append.1 hu' with hu' | hu'
     ·exact o3 u hu'
     ·exact hs.one u hu'
    ·simp only[rdOf,St.upd_same];rw[List.length_append] at hj;omega
  ·intro b' o' ho'
   by_cases hbb:b'=b
   ·subst hbb;rw[St.upd_same] at ho';cases ho';exact⟨_,cap,hheap',hroom,hmax,by rw[hszn,hcapk],ones_room hc4 hs.one _ _⟩
   ·rw[St.upd_ne _ _ _ _ hbb,St.del_ne _ _ _ hbb] at ho';exact OwnOk.mono hadv (setRow_other w b b' _ hbb) (hg.1 b' o' ho')
 ·have holds:(Builtin.firstCells i.size es.length (.slice (some ⟨b,0,none⟩) es.length cap)).run P w.drew=.ok olds.toArray w.drew:=
   run_firstCells_some w.drew i.size es.length ⟨b,0,none⟩ es.length cap olds (by rw[o5,his]) (fun j v hj=>by
    rw[Addr.add_lit];have:=o2 j v hj
    simpa using this)
  have hrun:=run_append_grow_src (P:=P) w t tx ty e i (C.T e).zero hu hi hiz (some ⟨b,0,none⟩) es.length cap olds holds y new.length news hs (by omega) (by omega)
   (by rw[hib];exact growslice_fits (by omega) hlim)
  have hge:=grownCap_ge w (es.length+new.length) cap e
  have hcm:=grownCap_le_maxLen w (es.length+new.length) cap e (by simp only[maxLen];omega)
  have hgd:Good C w (S.del b):=hg.mk (hg.1.del b) (Adv.del b)
  obtain⟨g1,g2,g3,g4⟩:=grown_sound hgd (e:=e) (k:=k) (m:=es.length+new.length) (cap:=grownCap w (es.length+new.length) cap e) (rows:=es++new) (vs:=olds++news)
   (rest:=(Builtin.zeroCells (C.T e).zero.cells (grownCap w (es.length+new.length) cap e-(es.length+new.length))).toList)
   (cur:=(olds++news).toArray++Builtin.zeroCells (C.T e).zero.cells (grownCap w (es.length+new.length) cap e-(es.length+new.length))) (by simp)
   (fun r hr=>by
     rcases List.mem_append.1 hr with hr | hr
     ·exact heslen r hr
     ·exact hl r hr)
   (by rw[List.flatten_append];exact RelL.append (RelL.mono (Adv.del b) _ _ o1) (RelL.mono (Adv.del b) _ _ hr))
   (fun u hu'=>by
     rcases List.mem_append.1 hu' with hu' | hu'
     ·exact o3 u hu'
     ·exact hs.one u hu')
   (by rw[List.length_append,o5,h1,Nat.add_mul]) hge hcm
   (by rw[Array.length_toList,size_zeroCells,hzs]) (zeroCells_one hz1 _) (by simp)
  exact⟨_,_,_,g1,g4,g2,(Adv.del b).trans g3,hrun⟩
theorem aGrow_sound(hT:TyOk P C){w:World}{S:St}(hg:Good C w S){t tx ty e:TypeId}(hk:(C.T t).kind=.slice e){p:AV}{x y:Value}(hx:Rel w (rdOf S) p x){new:List (List AV)}{news:List Value}
 (hs:Src P (C.T e).size tx y new.length news w) (hr:RelL w (rdOf S) new.flatten news) (hl:∀ r∈new,r.length=(C.T e).size) {K:AV→St→Prop} (h:aGrow C e p new S K) :
 ∃ z v w' S',K z S'∧Rel w' (rdOf S') z v∧Good C w' S'∧Adv w S w' S'∧(Builtin.append_ #[t,tx] ty #[x,y]).run P w=.ok v w':=by
 unfold aGrow at h;rw[when_iff] at h;obtain⟨hke,h⟩:=h;simp only[Bool.and_eq_true] at hke;obtain⟨hke,hpos⟩:=hke;have hpos:0<(C.T e).bytes:=by have:=Nat.le_of_ble_eq_true hpos;omega
 have hu:=und_slice hT hk
 obtain⟨i,d,hi,his,hib,hiz,_,_,hzs,hz1⟩:=ty_info hT hke;have weak:∀ {v:Value} {w':World} {S':St} {b':Nat} {es':List (List AV)},0<es'.length→Rel w' (rdOf S') (.sl (.own b') (C.T e).size es') v→Rel w' (rdOf S') (.sl (.acc b') (C.T e).size es') v:=fun {v w' S' b' es'} h0 hr=>by
  simp only[Rel] at hr ⊢
  rcases hr with ⟨hh,_⟩ | ⟨b,off,cap,h1,h2,h3,h4,h5⟩
  ·cases hh
  ·exact .inr ⟨b,off,cap,h1,h2,h3,⟨h0,h4⟩,h5⟩
 have nothing:∀ {base:Option Addr} {n cap:Nat},new.length=0→n≤cap→(Builtin.append_ #[t,tx] ty #[.slice base n cap,y]).run P w=.ok (.slice base n cap) w:=fun {base n cap} hm hn=>by
  have hn0:news=[]:=by
   have:=hs.newsLen
   rw[hm,Nat.zero_mul] at this;exact List.eq_nil_of_length_eq_zero this
  have hs':Src P i.size tx y 0 [] w:=by rw[his,← hm,← hn0];exact hs
  rcases hs'.kind with ⟨e',hk'⟩ | hk'<;>cases base<;>simp[Builtin.append_,run_underlying hu,run_underlying hk',sizeOf,typeInfo,hi,hs'.len,hs'.cells,hn,storeCells]
 split at h
 ·-- nil
  simp only[Rel] at hx;subst hx;obtain⟨hlim,h⟩:=h
  rcases Nat.eq_zero_or_pos new.length with hm | hm
  ·have hnew:new=[]:=List.eq_nil_of_length_eq_zero hm
   refine⟨_,_,w,S,h 0 S (.inl ⟨hm,rfl,rfl⟩),?_,hg,Adv.refl w S,nothing hm (Nat.le_refl _)⟩;subst hnew;simp only[Rel];exact .inl ⟨rfl,trivial,.inl rfl⟩
  ·obtain⟨b,v,w',k1,k2,k3,k4,k5⟩:=nil_grow (P:=P) (tx:=tx) (ty:=ty) hT hg hk hke hs hr hl hpos hlim hm;refine⟨_,v,w',_,h b _ (.inr ⟨hm,S,fun _=>rfl,fun h=>absurd h (by omega),k1,rfl⟩),weak hm ?_,?_,?_,k5⟩
   ·simpa only[Nat.zero_add] using k2
   ·simpa only[Nat.zero_add] using k3
   ·simpa only[Nat.zero_add] using k4
 ·-- own
  rename_i b k es
  rw[when_iff] at h;obtain⟨hkk,⟨hSb,hlim⟩,h⟩:=h;have hkk:=Nat.eq_of_beq_eq_true hkk;subst hkk;obtain⟨b',v,w',k1,k2,k3,k4,k5⟩:=own_grow (P:=P) (tx:=tx) (ty:=ty) hT hg hk hke hx hSb hs hr hl hpos hlim;exact⟨_,v,w',_,h b' k1,k2,k3,k4,k5⟩
 ·-- acc
  rename_i b k es
  rw[when_iff] at h;obtain⟨hkk,⟨hSb,hlim⟩,h⟩:=h;have hkk:=Nat.eq_of_beq_eq_true hkk;subst hkk;have hx':=hx;simp only[Rel] at hx
  rcases Nat.eq_zero_or_pos new.length with hm | hm
  ·have hnew:new=[]:=List.eq_nil_of_length_eq_zero hm
   subst hnew
   rcases hx with ⟨_,rfl,hz⟩ | ⟨b1,off,cap,rfl,hlc,hmax,hsh,hrows⟩
   ·obtain rfl:=hz.acc;exact⟨_,_,w,S,h b S (.inl ⟨rfl,rfl,rfl⟩),by simpa using hx',hg,Adv.refl w S,nothing rfl (Nat.le_refl _)⟩
   ·exact⟨_,_,w,S,h b S (.inl ⟨rfl,rfl,rfl⟩),by simpa using hx',hg,Adv.refl w S,nothing rfl hlc⟩
  ·rcases hx with ⟨_,rfl,hz⟩ | ⟨b1,off,cap,rfl,hlc,hmax,hsh,hrows⟩
   ·obtain rfl:=hz.acc;obtain⟨b',v,w',k1,k2,k3,k4,k5⟩:=nil_grow (P:=P) (tx:=tx) (ty:=ty) hT hg hk hke hs hr hl hpos (by simpa using hlim) hm
    refine⟨_,v,w',_,h b' _ (.inr ⟨hm,S,fun _=>rfl,fun h=>absurd h (by simp),k1,rfl⟩),weak (by simpa using hm) ?_,?_,?_,k5⟩
    ·simpa only[List.length_nil,Nat.zero_add,List.nil_append] using k2
    ·simpa only[List.length_nil,Nat.zero_add] using k3
    ·simpa only[List.length_nil,Nat.zero_add] using k4
   ·have h0:0<es.length:=hsh.1
    have hown:Rel w (rdOf S) (.sl (.own b) (C.T e).size es) (.slice (some ⟨b1,off,none⟩) es.length cap):=by
     simp only[Rel];exact .inr ⟨b1,off,cap,rfl,hlc,hmax,hsh.2,hrows⟩
    obtain⟨b',v,w',k1,k2,k3,k4,k5⟩:=own_grow (P:=P) (tx:=tx) (ty:=ty) hT hg hk hke hown (hSb h0) hs hr hl hpos hlim;exact⟨_,v,w',_,h b' _ (.inr ⟨hm,S.del b,fun h=>absurd h (by omega),fun _=>rfl,k1,rfl⟩),weak (by rw[List.length_append];omega) k2,k3,k4,k5⟩
 ·exact h.elim
theorem aSrc_sound(hT:TyOk P C){w:World}{S:St}(hg:Good C w S){t e tx:TypeId}(hk:(C.T t).kind=.slice e){q:AV}{y:Value}(hy:Rel w (rdOf S) q y){K:List (List AV)→Prop}(h:aSrc C e tx q S K) :
 ∃ new news,K new∧Src P (C.T e).size tx y new.length news w∧RelL w (rdOf S) new.flatten news∧∀ r∈new,r.length=(C.T e).size:=by
 unfold aSrc at h
 split at h
 ·rename_i s hkx
  rw[when_iff] at h;obtain⟨hsz,h⟩:=h;have hsz:=Nat.eq_of_beq_eq_true hsz;simp only[Rel] at hy;subst hy;refine⟨_,byteCells s,h,?_,RelL_bytes w _ _,by rw[← hsz];exact rowsB_one s⟩
  rw[← hsz,rowsB_len];exact Src.ofString w (und_str hT hkx) s
 ·rename_i e' b off n cap hkx
  rw[when_iff] at h;obtain⟨hee,te,cells,hS,hlen,h⟩:=h;have hee:=Nat.eq_of_beq_eq_true hee;subst hee;simp only[Rel] at hy;subst hy;obtain⟨cs,h1,h2,h3,h4⟩:=obj_cells hg.1 hS;have hcl:=RelL.length h2;have hdl:((cells.drop off).take (n*(C.T e').size)).length=n*(C.T e').size:=by rw[List.length_take,List.length_drop];omega
  obtain⟨r1,r2,r3⟩:=rows_len (k:=(C.T e').size) _ n hdl;have hnl:((cs.toList.drop off).take (n*(C.T e').size)).length=n*(C.T e').size:=by rw[List.length_take,List.length_drop,← hcl];omega
  refine⟨_,(cs.toList.drop off).take (n*(C.T e').size),h,?_,by rw[r2];exact RelL.take (RelL.drop h2 off) _,r1⟩
  rw[r3];refine Src.ofSlice w (und_slice hT hkx) ⟨b,off,none⟩ n cap _ hnl (fun j u hj=>?_) (fun u hu=>h3 u (List.mem_of_mem_drop (List.mem_of_mem_take hu)))
  rw[List.getElem?_take] at hj
  split at hj
  ·rw[List.getElem?_drop] at hj;have:=h4 _ u hj;rw[Addr.add_lit]
   simpa using this
  ·cases hj
 ·exact h.elim
theorem aAppendArr_sound(hT:TyOk P C){w:World}{S:St}(hg:Good C w S){t t' ty:TypeId}{b n cap:Nat}{q:AV}{y:Value}(hy:Rel w (rdOf S) q y){K:AV→St→Prop}(h:aAppendArr C t t' b n cap q S K) :
 ∃ z v w' S',K z S'∧Rel w' (rdOf S') z v∧Good C w' S'∧Adv w S w' S'∧(Builtin.append_ #[t,t'] ty #[.slice (some ⟨b,0,none⟩) n cap,y]).run P w=.ok v w':=by
 unfold aAppendArr at h
 split at h
 ·rename_i e sh k new hk
  rw[when_iff] at h;obtain⟨hb,cells,hS,⟨hn,hcc,hcm,hlim⟩,h⟩:=h;simp only[Bool.and_eq_true] at hb;obtain⟨hke,hpos,hbpos,htt,hkk⟩:=hb;have hpos:0<(C.T e).size:=by have:=Nat.le_of_ble_eq_true hpos;omega
  have hbpos:0<(C.T e).bytes:=by have:=Nat.le_of_ble_eq_true hbpos;omega
  have htt:=Nat.eq_of_beq_eq_true htt
  have hkk:=Nat.eq_of_beq_eq_true hkk
  subst htt;have hu:=und_slice hT hk;obtain⟨i,d,hi,his,hib,hiz,_,_,hzs,hz1⟩:=ty_info hT hke;have hnle:n+new.length≤140737488355328:=Nat.le_trans (Nat.le_mul_of_pos_right _ hbpos) hlim;obtain⟨cs,h1,h2,h3,h4⟩:=obj_cells hg.1 hS;have hcl:cells.length=cs.size:=by simpa using RelL.length h2
  have hnewlen:∀ r∈new,r.length=k:=by
   simp only[Rel] at hy
   rcases hy with ⟨_,rfl,_⟩ | ⟨b,off,cap,rfl,_,_,_,h4⟩
   ·simp
   ·exact RelRows.lens h4
  have hsrc:∃ news,Src P i.size t y new.length news w∧RelL w (rdOf S) new.flatten news:=by
   rcases src_cells hy with ⟨hn,base,c2,rfl⟩ | ⟨a,c2,news,rfl,m1,m2,m3,m4⟩
   ·subst hn;refine⟨[],?_,by simp[RelL]⟩
    cases base with
    | none=>
      refine⟨.inl ⟨_,hu⟩,fun _=>rfl,?_,?_,by simp,fun _ h=>by cases h⟩<;>simp[Builtin.firstCells]
    | some a=>exact Src.ofSlice w hu a 0 c2 [] (by simp) (fun j u hj=>by simp at hj) (fun u hu=>by simp at hu)
   ·exact⟨news,Src.ofSlice w hu a new.length c2 news (by rw[m1,his,hkk]) m2 m3,m4⟩
  obtain⟨news,hs,hr⟩:=hsrc;have h1n:news.length=new.length*k:=by rw[hs.newsLen,his,hkk]
  have hfl:new.flatten.length=new.length*k:=by rw[RelL.length hr,h1n]
  rw[split_iff] at h
  by_cases hroom:n+new.length≤cap
  ·have h:=h.1 (decide_eq_true hroom)
   have hnk:(n+new.length)*k≤cells.length:=Nat.le_trans (Nat.mul_le_mul_right _ hroom) hcc
   rw[Nat.add_mul] at hnk;have hfit:n*i.size+news.length≤cs.size:=by rw[h1n,his,hkk,← hcl];exact hnk
   have hrun:=run_append_room_src' (P:=P) w t t ty e i hu hi b n cap cs h1 y new.length news hs hroom hfit
   rw[his,hkk] at hrun;have hszn:(cs.toList.take (n*k)++news++cs.toList.drop (n*k+news.length)).toArray.size=cs.size:=by
    simp only[List.size_toArray,List.length_append,List.length_take,List.length_drop,Array.length_toList];rw[his,hkk] at hfit;omega
   have hadv:=Adv.setRow (cells':=setRange cells (n*k) new.flatten) hS h1 hszn
   refine⟨_,_,_,_,h,by simp only[Rel],hg.mk ?_ hadv,hadv,hrun⟩
   intro b' o ho'
   by_cases hbb:b'=b
   ·subst hbb;rw[St.upd_same] at ho'
    cases ho'
    refine⟨_,setRow_heap w b' cs _ e (0,0) h1,?_,?_⟩
    ·have:=RelL.setRange (off:=n*k) (RelL.mono hadv _ _ hr) (RelL.mono hadv _ _ h2) (by rw[hfl];exact hnk)
     simpa using this
    ·intro u hu';simp only[List.mem_append] at hu'
     rcases hu' with (hu' | hu') | hu'
     ·exact h3 u (List.mem_of_mem_take hu')
     ·exact hs.one u hu'
     ·exact h3 u (List.mem_of_mem_drop hu')
   ·rw[St.upd_ne _ _ _ _ hbb] at ho';exact OwnOk.mono hadv (setRow_other w b b' _ hbb) (hg.1 b' o ho')
  ·have h:=h.2 (decide_eq_false hroom)
   have hnk:n*k≤cs.size:=by rw[← hcl];exact Nat.le_trans (Nat.mul_le_mul_right _ hn) hcc
   have hol:(cs.toList.take (n*k)).length=n*k:=by rw[List.length_take,Array.length_toList];omega
   have holds:(Builtin.firstCells i.size n (.slice (some ⟨b,0,none⟩) n cap)).run P w.drew=.ok (cs.toList.take (n*k)).toArray w.drew:=
    run_firstCells_some w.drew i.size n ⟨b,0,none⟩ n cap _ (by rw[hol,his,hkk]) (fun j v hj=>by
     rw[List.getElem?_take] at hj
     split at hj
     ·have:=h4 j v hj
      rw[Addr.add_lit]
      simpa using this
     ·cases hj)
   have hrun:=run_append_grow_src (P:=P) w t t ty e i (C.T e).zero hu hi hiz (some ⟨b,0,none⟩) n cap _ holds y new.length news hs (by omega) (by omega)
    (by rw[hib];exact growslice_fits (by omega) hlim)
   have hge:=grownCap_ge w (n+new.length) cap e
   have hcm':=grownCap_le_maxLen w (n+new.length) cap e (by simp only[maxLen];omega)
   obtain⟨z1,z2,z3,z4⟩:=zero_sound (P:=P) hT hke w (rdOf S);have hgd:Good C w.drew S:=hg.drew;have hzz:=zeros_sound (RelL.mono (Adv.refl w S).drew _ _ z2) (grownCap w (n+new.length) cap e-(n+new.length));have hz1':=zeros_one z3 (grownCap w (n+new.length) cap e-(n+new.length));obtain⟨g1,g2,g3⟩:=newObj_sound (w:=w.drew) hgd (e:=e) (cells:=cells.take (n*k)++(new.flatten++mulL 0 (cellsOf (ofV (C.T e).zero)) (grownCap w (n+new.length) cap e-(n+new.length))))
    (cs:=(cs.toList.take (n*k)++news).toArray++Builtin.zeroCells (C.T e).zero.cells (grownCap w (n+new.length) cap e-(n+new.length)))
    (by
      have:=RelL.append (RelL.take (RelL.mono (Adv.refl w S).drew _ _ h2) (n*k)) (RelL.append (RelL.mono (Adv.refl w S).drew _ _ hr) hzz)
      simpa [Builtin.zeroCells,List.append_assoc] using this)
    (by
      intro u hu';simp only[Array.toList_append,List.mem_append] at hu'
      rcases hu' with (hu' | hu') | hu'
      ·exact h3 u (List.mem_of_mem_take hu')
      ·exact hs.one u hu'
      ·exact hz1' u hu')
   exact⟨_,_,_,_,h _ _ g1 hge hcm',by simp only[Rel];rfl,g2,(Adv.refl w S).drew.trans g3,hrun⟩
 ·exact h.elim
theorem aAppendNew_sound(hT:TyOk P C){w:World}{S:St}(hg:Good C w S){t t' ty:TypeId}{k:Nat}{p q:AV}{x y:Value}(hp:p=.sl .full k [])(hx:Rel w (rdOf S) p x)(hy:Rel w (rdOf S) q y){K:AV→St→Prop}(h:aAppendNew C t t' k q S K) :
 ∃ z v w' S',K z S'∧Rel w' (rdOf S') z v∧Good C w' S'∧Adv w S w' S'∧(Builtin.append_ #[t,t'] ty #[x,y]).run P w=.ok v w':=by
 subst hp;unfold aAppendNew at h
 split at h
 ·rename_i e sh k2 r rs hk
  rw[when_iff] at h;obtain⟨hb,hlim,h⟩:=h;simp only[Bool.and_eq_true] at hb;obtain⟨hke,hpos,hbpos,htt,hkk,hkk2⟩:=hb;have hpos:0<(C.T e).size:=by have:=Nat.le_of_ble_eq_true hpos;omega
  have hbpos:0<(C.T e).bytes:=by have:=Nat.le_of_ble_eq_true hbpos;omega
  have htt:=Nat.eq_of_beq_eq_true htt
  have hkk:=Nat.eq_of_beq_eq_true hkk
  have hkk2:=Nat.eq_of_beq_eq_true hkk2
  subst htt;subst hkk2;have hm:0<(r::rs).length:=by simp
  generalize hnew:r::rs=new at *;simp only[Rel,Sh.mayNil,Bool.false_eq_true,reduceCtorEq,false_and,false_or] at hx;obtain⟨b,off,cap,rfl,hlc,hmax,hcap,_⟩:=hx;have hcap:cap=0:=hcap;subst hcap;have hu:=und_slice hT hk;obtain⟨i,d,hi,his,hib,hiz,_,_,hzs,hz1⟩:=ty_info hT hke;have hnle:new.length≤140737488355328:=Nat.le_trans (Nat.le_mul_of_pos_right _ hbpos) hlim;have hsrc:∃ news,Src P i.size t y new.length news w∧RelL w (rdOf S) new.flatten news:=by
   rcases src_cells hy with ⟨hn,base,c2,rfl⟩ | ⟨a,c2,news,rfl,m1,m2,m3,m4⟩
   ·subst hn;simp at hm
   ·exact⟨news,Src.ofSlice w hu a new.length c2 news (by rw[m1,his,hkk]) m2 m3,m4⟩
  obtain⟨news,hs,hr⟩:=hsrc;have holds:(Builtin.firstCells i.size 0 (.slice (some ⟨b,off,none⟩) 0 0)).run P w.drew=.ok #[] w.drew:=
   run_firstCells_some w.drew i.size 0 ⟨b,off,none⟩ 0 0 [] (by simp) (fun j v hj=>by simp at hj)
  have hrun:=run_append_grow_src (P:=P) w t t ty e i (C.T e).zero hu hi hiz (some ⟨b,off,none⟩) 0 0 _ holds y new.length news hs (by omega) (by omega)
   (by rw[hib];exact growslice_fits (by omega) (by rw[Nat.zero_add];exact hlim))
  rw[Nat.zero_add] at hrun;have hge:=grownCap_ge w new.length 0 e;have hcm':=grownCap_le_maxLen w new.length 0 e (by simp only[maxLen];omega)
  obtain⟨z1,z2,z3,z4⟩:=zero_sound (P:=P) hT hke w (rdOf S);have hgd:Good C w.drew S:=hg.drew;have hzz:=zeros_sound (RelL.mono (Adv.refl w S).drew _ _ z2) (grownCap w new.length 0 e-new.length);have hz1':=zeros_one z3 (grownCap w new.length 0 e-new.length);obtain⟨g1,g2,g3⟩:=newObj_sound (w:=w.drew) hgd (e:=e) (cells:=new.flatten++mulL 0 (cellsOf (ofV (C.T e).zero)) (grownCap w new.length 0 e-new.length))
   (cs:=#[]++news.toArray++Builtin.zeroCells (C.T e).zero.cells (grownCap w new.length 0 e-new.length))
   (by
     have:=RelL.append (RelL.mono (Adv.refl w S).drew _ _ hr) hzz
     simpa [Builtin.zeroCells,List.append_assoc] using this)
   (by
     intro u hu';simp only[Array.toList_append,List.mem_append] at hu'
     rcases hu' with (hu' | hu') | hu'
     ·simp at hu'
     ·exact hs.one u hu'
     ·exact hz1' u hu')
  exact⟨_,_,_,_,h _ _ g1 hge hcm',by simp only[Rel];rfl,g2,(Adv.refl w S).drew.trans g3,by simpa using hrun⟩
 ·exact h.elim
theorem aAppendNil_sound(hT:TyOk P C){w:World}{S:St}(hg:Good C w S){t t' ty:TypeId}{k:Nat}{p q:AV}{x y:Value}(hp:p=.sl .any k [])(hx:Rel w (rdOf S) p x)(hy:Rel w (rdOf S) q y){K:AV→St→Prop}(h:aAppendNil C t t' k q S K) :
 ∃ z v w' S',K z S'∧Rel w' (rdOf S') z v∧Good C w' S'∧Adv w S w' S'∧(Builtin.append_ #[t,t'] ty #[x,y]).run P w=.ok v w':=by
 subst hp;unfold aAppendNil at h
 split at h
 ·rename_i e sh k2 hk
  rw[when_iff] at h;obtain⟨hb,h⟩:=h;simp only[Bool.and_eq_true] at hb;obtain⟨hke,htt,hkk⟩:=hb;have htt:=Nat.eq_of_beq_eq_true htt;subst htt;have hx':=hx;have hlen:∃ ap cap,x=.slice ap 0 cap:=by
   simp only[Rel] at hx
   rcases hx with ⟨_,_,hz⟩ | ⟨b,off,cap,rfl,_⟩
   ·obtain⟨ap,rfl⟩:=hz.slice;exact⟨ap,0,rfl⟩
   ·exact⟨_,_,rfl⟩
  obtain⟨ap,cap,rfl⟩:=hlen
  rcases src_cells hy with ⟨_,base,c2,rfl⟩ | ⟨a,c2,news,rfl,_⟩
  ·exact⟨_,_,w,S,h,hx',hg,Adv.refl w S,append_nothing hT hk hke ap 0 cap (Nat.zero_le _) base c2⟩
  ·exact⟨_,_,w,S,h,hx',hg,Adv.refl w S,append_nothing hT hk hke ap 0 cap (Nat.zero_le _) (some a) c2⟩
 ·exact h.elim
end
section
variable {P:Program} {C:Cx}
theorem aMM_sound{w:World}{rd}(mx:Bool):∀ (r:List AV) (vs:List Value) (p:AV) (x:Value),Rel w rd p x→RelL w rd r vs→∀ {K:AV→Prop},aMM mx p r K→
 ∃ z v,K z∧Rel w rd z v∧((vs.foldlM (match mx with | true=>Builtin.max2 | false=>Builtin.min2) x:Sem Value)).run P w=.ok v w
 | [],vs,p,x,hx,hr,K,h=>by
  simp only[RelL] at hr;subst hr;have e:aMM mx p [] K=force p K:=by cases p<;>rfl
  rw[e,force_eq] at h;exact⟨_,x,h,hx,rfl⟩
 | q::r,vs,p,x,hx,hr,K,h=>by
   simp only[RelL] at hr;obtain⟨u,us,rfl,h2,h3⟩:=hr
   cases p
   case int k a=>
    cases q
    case int k' b=>
     simp only[Rel] at hx h2;subst hx;subst h2
     cases mx with
     | true=>
       obtain⟨z,v,k1,k2,k3⟩:=aMM_sound true r us _ (.int k (if b > a then b else a)) (by simp only[Rel]) h3 h
       exact⟨z,v,k1,k2,by simpa [List.foldlM_cons,Builtin.max2] using k3⟩
     | false=>
       obtain⟨z,v,k1,k2,k3⟩:=aMM_sound false r us _ (.int k (if b<a then b else a)) (by simp only[Rel]) h3 h
       exact⟨z,v,k1,k2,by simpa [List.foldlM_cons,Builtin.min2] using k3⟩
    all_goals exact False.elim h
   all_goals (cases q<;>exact False.elim h)
theorem RelL.one{w:World}{rd}{x:AV}{vs:List Value}(h:RelL w rd [x] vs):∃ v,vs=[v]∧Rel w rd x v:=by
 simp only[RelL] at h;obtain⟨u,us,rfl,h1,rfl⟩:=h;exact⟨u,rfl,h1⟩
theorem RelL.two{w:World}{rd}{x y:AV}{vs:List Value}(h:RelL w rd [x,y] vs):∃ u v,vs=[u,v]∧Rel w rd x u∧Rel w rd y v:=by
 simp only[RelL] at h;obtain⟨u,us,rfl,h1,v,vs,rfl,h2,rfl⟩:=h;exact⟨u,v,rfl,h1,h2⟩
theorem arr_of_list{α:Type}{a:Array α}{l:List α}(h:a.toList=l):a=l.toArray:=by cases a;simp_all
theorem aBuiltin_sound(hT:TyOk P C){w:World}{S:St}(hg:Good C w S){b:Builtin}{ts:Array TypeId}{ty:TypeId}{xs:List AV}{vs:Array Value}(hx:RelL w (rdOf S) xs vs.toList){K:AV→St→Prop}(h:aBuiltin C b ts.toList xs S K) :
 ∃ z v w' S',K z S'∧Rel w' (rdOf S') z v∧Good C w' S'∧Adv w S w' S'∧∀ cs,(builtin b ts ty cs vs).run P w=.ok (.value v) w':=by
 unfold aBuiltin at h
 split at h
 ·rename_i t x ht
  obtain⟨v,hv,hr⟩:=RelL.one hx;obtain⟨z,v',k1,k2,k3⟩:=aLen_sound (P:=P) hT hg.1 (ty:=ty) hr h;exact⟨z,v',w,S,k1,k2,hg,Adv.refl w S,fun cs=>by rw[arr_of_list ht,arr_of_list hv];simp[builtin,k3]⟩
 ·rename_i t t' x y ht
  obtain⟨u,v,hv,h1,h2⟩:=RelL.two hx
  split at h
  ·split at h
   ·rename_i e hk
    obtain⟨new,news,k0,s1,s2,s3⟩:=aSrc_sound (P:=P) hT hg hk h2 h;obtain⟨z,v',w',S',k1,k2,k3,k4,k5⟩:=aGrow_sound (P:=P) hT hg (ty:=ty) hk h1 s1 s2 s3 k0;exact⟨z,v',w',S',k1,k2,k3,k4,fun cs=>by rw[arr_of_list ht,arr_of_list hv];simp[builtin,k5]⟩
   ·exact h.elim
  ·rw[when_iff] at h;obtain⟨he,h⟩:=h;have he:=Nat.eq_of_beq_eq_true he;subst he;obtain⟨z,v',w',S',k1,k2,k3,k4,k5⟩:=aAppend_sound (P:=P) hT hg (ty:=ty) h1 h2 h;exact⟨z,v',w',S',k1,k2,k3,k4,fun cs=>by rw[arr_of_list ht,arr_of_list hv];simp[builtin,k5]⟩
 ·rename_i t x ht
  obtain⟨v,hv,hr⟩:=RelL.one hx
  split at h
  ·rename_i e b off n c hk
   simp only[Rel] at hr;subst hr;exact⟨_,.int .i64 (c:Int),w,S,h,by simp only[Rel],hg,Adv.refl w S,fun cs=>by rw[arr_of_list ht,arr_of_list hv];simp[builtin,Builtin.cap_,run_underlying (und_slice hT hk),goInt]⟩
  ·exact h.elim
 ·rename_i x r
  simp only[RelL] at hx;obtain⟨u,us,hv,h1,h2⟩:=hx;obtain⟨z,v',k1,k2,k3⟩:=aMM_sound (P:=P) true r us x u h1 h2 h;exact⟨z,v',w,S,k1,k2,hg,Adv.refl w S,fun cs=>by simp only[builtin,Builtin.max_,hv];simp[k3]⟩
 ·rename_i x r
  simp only[RelL] at hx;obtain⟨u,us,hv,h1,h2⟩:=hx;obtain⟨z,v',k1,k2,k3⟩:=aMM_sound (P:=P) false r us x u h1 h2 h;exact⟨z,v',w,S,k1,k2,hg,Adv.refl w S,fun cs=>by simp only[builtin,Builtin.min_,hv];simp[k3]⟩
 ·exact h.elim
theorem aFill_length(place:Nat→Option (Nat×Nat)):∀ (parts:List (Nat×AV)) (cells:List AV) {out:List AV},aFill place cells parts=some out→out.length=cells.length
 | [],cells,out,h=>by simp only[aFill,Option.some.injEq] at h;rw[h]
 | (i,x)::r,cells,out,h=>by
  simp only[aFill] at h
  cases hpl:place i with
  | none=>rw[hpl] at h;cases h
  | some q=>
    obtain⟨off,size⟩:=q;rw[hpl] at h;simp only[cond_eq_ite] at h
    split at h
    ·rw[aFill_length place r _ h,setRange_length]
    ·cases h
theorem Adv.setIter{w:World}{S:St}{b:Nat}{s:ByteArray}{pos:Nat}(hS:S b=some (.siter s pos))(hb:w.heap[b]? = some (.stringIter s pos))(pos':Nat):Adv w S (w.iterAt b s pos') (S.upd b (.siter s pos')):=by
 have hother:∀ x,x≠b→(w.iterAt b s pos').heap[x]? = w.heap[x]?:=fun x hx=>by simp[World.iterAt,Array.getElem?_setIfInBounds_ne (Ne.symm hx)]
 refine⟨rfl,rfl,rfl,by simp[World.iterAt],fun x hx hn=>?_,fun x off hx hr=>?_,fun x e' n hx=>?_⟩
 ·have hne:x≠b:=St.ne_of' hn hS
  exact⟨by rw[St.upd_ne _ _ _ _ hne];exact hn,hother x hne⟩
 ·have hne:x≠b:=by rintro rfl;simp only[rdOf,hS] at hr
  refine⟨by simp only[rdOf,St.upd_ne _ _ _ _ hne];exact hr,cell_of_block (hother x hne) off⟩
 ·by_cases hne:x=b
  ·subst hne;simp only[World.shape?,hb] at hx
   cases hx
  ·rw[shape_of_block (hother x hne)];exact hx
theorem Good.setIter{w:World}{S:St}{b:Nat}{s:ByteArray}{pos:Nat}(hg:Good C w S)(hS:S b=some (.siter s pos))(pos':Nat):Good C (w.iterAt b s pos') (S.upd b (.siter s pos')):=by
 have hb:w.heap[b]? = some (.stringIter s pos):=hg.1 b _ hS
 have hadv:=Adv.setIter hS hb pos'
 refine hg.mk (fun x o ho=>?_) hadv
 by_cases hx:x=b
 ·subst hx;rw[St.upd_same] at ho
  cases ho
  exact Lib.iterAt_heap w x s pos pos' hb
 ·rw[St.upd_ne _ _ _ _ hx] at ho;refine OwnOk.mono hadv ?_ (hg.1 x o ho)
  simp[World.iterAt,Array.getElem?_setIfInBounds_ne (Ne.symm hx)]
theorem evL_of{e:Operand→AV}{a:Act}{w:World}{rd}(E:∀ x,Rel w rd (e x) (a.eval x)):∀ xs:List Operand,RelL w rd (xs.map e) (xs.map a.eval)
 | []=>by simp[RelL]
 | x::xs=>by simp only[List.map_cons,RelL];exact⟨_,_,rfl,E x,evL_of E xs⟩
theorem optRel_of{e:Operand→AV}{a:Act}{w:World}{rd}(E:∀ x,Rel w rd (e x) (a.eval x))(x:Option Operand):OptRel w rd (x.map e) (x.map a.eval):=by
 cases x with
 | none=>exact .inl ⟨rfl,rfl⟩
 | some x=>exact .inr ⟨_,_,rfl,rfl,E x⟩
def okV(ok:Bool)(v:AV)(b:Bool):AV:=match ok with | true=>.tu [v,.bool b] | false=>v
theorem aOpE_sound(hT:TyOk P C){o:Oper}{a:Act}{w:World}{S:St}{e:Operand→AV}(hY:YOk P C w S)(hg:Good C w S)(E:∀ x,Rel w (rdOf S) (e x) (a.eval x)){K Qp:AV→St→Prop}(h:aOpE P C o e S K Qp)
 {next:Act→World→Prop} {Q:Exit→Act→World→Prop}
 (hK:∀ x v w' S',K x S'→Rel w' (rdOf S') x v→Good C w' S'→Adv w S w' S'→next (a.put o.dst v) w')
 (hQ:∀ x v w' S',Qp x S'→Rel w' (rdOf S') x v→Good C w' S'→Adv w S w' S'→Q (.panic [{ v,recovered:=false }]) a w') :
 o.wp P a w next Q:=by
 have same:∀ {z v},K z S→Rel w (rdOf S) z v→(execOp a.eval o).run P w=.ok (.value v) w→o.wp P a w next Q:=fun h1 h2 h3=>op_value h3 (hK _ _ _ _ h1 h2 hg (Adv.refl w S))
 unfold aOpE at h
 split at h
 case h_1 x ho=>
  rw[force_eq] at h;exact same h (E x) (by simp[execOp,ho])
 case h_2 x ho=>
  rw[force_eq] at h;exact same h (E x) (by simp[execOp,ho])
 case h_3 c x y ho=>
  split at h
  ·rename_i b hb
   have hc:=E c
   rw[hb] at hc;simp only[Rel] at hc;rw[split_iff,force_eq,force_eq] at h
   cases b with
   | true=>exact same (h.1 rfl) (E x) (by simp[execOp,ho,hc,asBool])
   | false=>exact same (h.2 rfl) (E y) (by simp[execOp,ho,hc,asBool])
  ·exact h.elim
 case h_4 te ho=>
  rw[when_iff] at h;obtain⟨hk,h⟩:=h;obtain⟨z1,z2,z3,z4⟩:=zero_sound (P:=P) hT hk w (rdOf S);obtain⟨m1,m2,m3⟩:=newObj_sound hg (e:=te) z2 z3;have h:=h _ m1;rw[forceL_eq] at h;refine op_value (v:=.pointer (some ⟨w.heap.size,0,none⟩)) ?_ (hK _ _ _ _ h (by simp only[Rel]) m2 m3)
  simp[execOp,ho,Instr.alloc,z1,newVar,newRow]
 case h_5 te x ho=>
  rw[force_eq,when_iff] at h;obtain⟨hk,h⟩:=h;obtain⟨z2,z3⟩:=RelL_cellsOf (E x) hk;obtain⟨m1,m2,m3⟩:=newObj_sound hg (e:=te) z2 z3;have h:=h _ m1;rw[forceL_eq] at h;refine op_value (v:=.pointer (some ⟨w.heap.size,0,none⟩)) ?_ (hK _ _ _ _ h (by simp only[Rel]) m2 m3)
  simp[execOp,ho,Instr.box,newVar,newRow]
 case h_6 t parts ho=>
  split at h
  ·rename_i fs hk
   split at h
   ·rename_i cells hf
    rw[when_iff,forceL_eq] at h;obtain⟨hfs,h⟩:=h;obtain⟨fa,hu,he'⟩:=und_struct hT hk;obtain⟨z1,z2,z3,z4⟩:=zero_sound (P:=P) hT (known_of hk (by simp)) w (rdOf S)
    have hfs':(fa.toList.all fun f=>known C f.type)=true:=by
     rw[← he'] at hfs
     simpa [List.all_map] using hfs
    have hpl:=places_of (P:=P) hT fa.toList hfs'
    have hfill:=aFill_sound (w:=w) (rd:=rdOf S) _ (parts.toList.map fun p=>(p.1,e p.2)) (parts.toList.map fun p=>(p.1,a.eval p.2)) _ _ cells
     (by simpa [List.map_map,Function.comp_def] using evL_of E (parts.toList.map (·.2))) (by simp[List.map_map,Function.comp_def]) z2 z3 hf
    obtain⟨cs',f1,f2,f3⟩:=hfill;refine same (v:=.agg cs') h (by simp only[Rel];exact⟨cs',rfl,f2,f3⟩) ?_
    have hplaces:(fun(i:Nat)=>((fa.toList.map fun f=>(f.offset,(C.T f.type).size)).toArray)[i]?)=fun(i:Nat)=>(fs[i]?).map fun(f:Nat×TypeId)=>(f.1,(C.T f.2).size):=by
     funext i
     rw[← he']
     simp[List.getElem?_map,Function.comp_def]
    rw[← hplaces] at f1
    simp[execOp,ho,Instr.build,z1,run_underlying hu,Array.mapM_eq_mapM_toList,run_places w _ _ hpl]
    simp at f1
    simp[f1]
   ·exact h.elim
  ·exact h.elim
 case h_7 t n' parts ho=>
  split at h
  ·rename_i te hk
   cases hA:(C.A && Nat.beq n' 0) with
   | true=>
     rw[hA] at h;simp only[cond_true] at h;rw[when_iff] at h;obtain⟨hke,hp,h⟩:=h;simp only[Bool.and_eq_true] at hA;have hn0:n'=0:=Nat.eq_of_beq_eq_true hA.2;subst hn0;have hu:=und_slice hT hk;have hr0:∀ f:Nat→Value,Array.map f (Array.range 0)=#[]:=fun f=>Array.eq_empty_of_size_eq_zero (by simp)
     obtain rfl:parts=#[]:=by cases parts;simp_all
     obtain⟨g1,g2,g3⟩:=newObj_sound hg (e:=te) (cs:=#[]) (cells:=[]) (by simp[RelL]) (by simp)
     exact op_value (v:=.slice (some ⟨w.heap.size,0,none⟩) 0 0) (by simp[execOp,ho,Instr.buildSlice,run_underlying hu,run_size hT hke,newRow,hr0,Instr.fill]) (hK _ _ _ _ (h _ g1) (by simp only[Rel]) g2 g3)
   | false=>
   rw[hA] at h;simp only[cond_false] at h;rw[when_iff] at h;obtain⟨hk2,h⟩:=h;simp only[Bool.and_eq_true] at hk2;obtain⟨hke,hsm,hsp⟩:=hk2;have hsm:=Nat.le_of_ble_eq_true hsm;have hsp:0<(C.T te).size:=by have:=Nat.le_of_ble_eq_true hsp;omega
   split at h
   ·rename_i cells hf
    have h:=h _ hg.1.fresh
    rw[forceR_eq] at h;have hu:=und_slice hT hk;obtain⟨z1,z2,z3,z4⟩:=zero_sound (P:=P) hT hke w (rdOf S);have hzs:=zeros_sound z2 n';have hz1:=zeros_one z3 n';rw[z4] at hzs hz1;have hfill:=aFill_sound (w:=w) (rd:=rdOf S) _ (parts.toList.map fun p=>(p.1,e p.2)) (parts.toList.map fun p=>(p.1,a.eval p.2)) _ _ cells
     (by simpa [List.map_map,Function.comp_def] using evL_of E (parts.toList.map (·.2))) (by simp[List.map_map,Function.comp_def]) hzs hz1 hf
    obtain⟨cs',f1,f2,f3⟩:=hfill;have hcl:cells.length=n'*(C.T te).size:=by
     rw[aFill_length _ _ _ hf,mulL_length,RelL.length z2,Array.length_toList,z4]
    obtain⟨r1,r2,r3⟩:=rows_len (k:=(C.T te).size) cells n' hcl;have hadv:=Adv.allocOwn (w:=w) (.cells cs' te) (.tip te (C.T te).size n') hg.1.fresh;have hcsz:cs'.size=n'*(C.T te).size:=by rw[← hcl];simpa using (RelL.length f2).symm
    have hrun:(execOp a.eval o).run P w=.ok (.value (.slice (some ⟨w.heap.size,0,none⟩) n' n')) (w.alloc (.cells cs' te)):=by
     have hno:¬ n'*(C.T te).size > 2 ^ 24:=by omega
     have hno':¬ 2 ^ 24<n'*(C.T te).size:=hno
     by_cases hz:n'*(C.T te).size=0
     ·have hn0:n'=0:=by
       rcases Nat.mul_eq_zero.1 hz with h | h
       ·exact h
       ·omega
      subst hn0;have hr0:∀ f:Nat→Value,Array.map f (Array.range 0)=#[]:=fun f=>Array.eq_empty_of_size_eq_zero (by simp)
      simp only[Nat.zero_mul,hr0] at f1
      simp[execOp,ho,Instr.buildSlice,run_underlying hu,run_size hT hke,newRow,hr0,f1]
     ·simp[execOp,ho,Instr.buildSlice,run_underlying hu,run_size hT hke,hz,newRow,z1,z4,hno']
      simp[f1]
    have hmx:n'≤maxLen:=by
     have:n'≤n'*(C.T te).size:=Nat.le_mul_of_pos_right _ hsp
     simp only[maxLen];omega
    refine op_value hrun (hK _ _ _ _ h ?_ (hg.mk (hg.1.allocOwn _ _ ⟨cs',n',heap_alloc_new w _,Nat.le_refl _,hmx,hcsz,f3⟩) hadv) hadv);have hb:(w.alloc (.cells cs' te)).heap[w.heap.size]? = some (.cells cs' te (0,0)):=heap_alloc_new w _;simp only[Rel];refine .inr ⟨w.heap.size,0,n',by rw[r3],by rw[r3];exact Nat.le_refl _,hmx,⟨rfl,rfl,te,by simp only[World.shape?,hb,hcsz]⟩,?_⟩
    refine RelRows.of_cells r1 (by rw[r2];exact RelL.mono hadv _ _ f2) (fun i v hv=>?_) f3 (fun i hi=>?_)
    ·rw[Nat.zero_add,cell_of_row _ _ i cs' te (0,0) hb]
     simpa using hv
    ·simp only[rdOf,St.upd_same];rw[r3] at hi;omega
   ·exact h.elim
  ·exact h.elim
 case h_8 t p ho=>
  obtain⟨z,v,k1,k2,k3⟩:=aLoad_sound (P:=P) hT hg.1 (E p) h;exact same k1 k2 (by simp[execOp,ho,k3])
 case h_9 t p x ho=>
  rw[force_eq] at h;obtain⟨w',S',k1,k2,k3,k4⟩:=aStore_sound (P:=P) hT hg (E p) (E x) h;exact op_skip (by simp[execOp,ho,k4]) (hK .top _ _ _ k1 (by simp only[Rel]) k2 k3)
 case h_10 x ho=>
  have hx:=E x
  split at h
  ·rename_i hv
   rw[hv] at hx;have hx':=hx;simp only[Rel] at hx';exact same h hx (by simp[execOp,ho,hx'])
  ·rename_i hv
   rw[hv] at hx;have hx':=hx;simp only[Rel] at hx';obtain⟨b,off,e1,_⟩:=hx';exact same h hx (by simp[execOp,ho,e1])
  ·rename_i hv
   rw[hv] at hx;have hx':=hx;simp only[Rel] at hx';obtain⟨y,e1,_⟩:=hx';exact same h hx (by simp[execOp,ho,e1])
  ·rename_i hv
   rw[hv] at hx;have hx':=hx;simp only[Rel] at hx';obtain⟨b,c,e1,_⟩:=hx';exact same h hx (by simp[execOp,ho,e1])
  ·exact h.elim
 case h_11 op t x y yt ho=>
  split at h
  ·rename_i pos es hn
   obtain⟨c,k1,k2⟩:=nilTest_sound (P:=P) hT (ρ:=a.eval) (E x) (E y) hn;refine same (v:=.bool c) (h c k1) (by simp only[Rel]) ?_
   simp only[execOp,ho];rw[Sem.run_bind,k2];rfl
  ·obtain⟨z,v,k1,k2,k3⟩:=aBin_sound (P:=P) hT (ρ:=a.eval) (E x) (E y) h;refine same k1 k2 ?_;simp only[execOp,ho];rw[Sem.run_bind,k3];rfl
 case h_12 op t x ho=>
  obtain⟨z,v,k1,k2,k3⟩:=aUn_sound (P:=P) (E x) h;exact same k1 k2 (by simp[execOp,ho,k3])
 case h_13 s d x ho=>
  obtain⟨z,v,w',k1,k2,k3,k4,k5⟩:=aConv_sound (P:=P) hT hg (E x) h;exact op_value (by simp[execOp,ho,k5]) (hK _ _ _ _ k1 k2 k3 k4)
 case h_14 t x ho=>
  split at h
  ·exact h.elim
  ·exact h.elim
  ·rename_i hn1 hn2
   rw[force_eq] at h;have hkk:known C t=true:=by unfold known;split;(· rename_i hh;exact absurd hh hn2);rfl
   obtain⟨_,d,_,_,_,_,hd,hkd,_⟩:=ty_info hT hkk;refine same (v:=.iface t (a.eval x)) h (by simp only[Rel];exact⟨_,rfl,E x⟩) ?_
   have:∀ ms,d≠.interface ms:=fun ms hms=>by subst hms;exact hn1 _ hkd.symm
   have hm:(Instr.makeInterface t (a.eval x)).run P w=.ok (.iface t (a.eval x)) w:=by
    simp only[Instr.makeInterface,Sem.run_bind,run_underlying hd,Result.andThen_ok]
    cases d<;>first | rfl | exact absurd rfl (this _)
   simp[execOp,ho,hm]
 case h_15 f b c ho=>
  rw[forceL_eq,forceL_eq] at h;refine same (v:=.func f (b.map a.eval) (c.map a.eval)) h ?_ (by simp[execOp,ho,Instr.makeFunc])
  simp only[Rel];exact⟨_,_,rfl,by simpa using evL_of E b.toList,by simpa using evL_of E c.toList⟩
 case h_16 t x lo hi mx ho=>
  obtain⟨z,v,k1,k2,k3⟩:=aSlice_sound (P:=P) hT (E x) (optRel_of E lo) (optRel_of E hi) (optRel_of E mx) h;exact same k1 k2 (by simp[execOp,ho,k3])
 case h_17 t p f ho=>
  obtain⟨z,v,k1,k2,k3⟩:=aFieldAddr_sound (P:=P) hT (E p) h;exact same k1 k2 (by simp[execOp,ho,k3])
 case h_18 t p f ho=>
  obtain⟨z,v,k1,k2,k3⟩:=aField_sound (P:=P) hT (E p) h;exact same k1 k2 (by simp[execOp,ho,k3])
 case h_19 t x i ho=>
  obtain⟨z,v,k1,k2,k3⟩:=aIndexAddr_sound (P:=P) hT (E x) (E i) h;exact same k1 k2 (by simp[execOp,ho,k3])
 case h_20 t x i ho=>
  obtain⟨z,v,k1,k2,k3⟩:=aIndex_sound (P:=P) hT (E x) (E i) h;exact same k1 k2 (by simp[execOp,ho,k3])
 case h_21 x i ho=>
  have hx:=E x
  split at h
  ·rename_i xs hv
   rw[hv] at hx;simp only[Rel] at hx;obtain⟨cs,e1,hr⟩:=hx
   split at h
   ·rename_i y r hd
    rw[force_eq] at h;have hg':xs[i]? = some y:=by
     have:(xs.drop i)[0]? = some y:=by rw[hd];rfl
     simpa using this
    obtain⟨v,h1,h2⟩:=RelL.get hr i y hg';have h1':cs[i]? = some v:=by simpa using h1
    exact same h h2 (by simp[execOp,ho,e1,Instr.extract,h1'])
   ·exact h.elim
  ·exact h.elim
 case h_22 t l c ho=>
  split at h
  ·rename_i te k1 n k2 m hk hl hc
   rw[when_iff] at h;obtain⟨hke,⟨m0,m1,m2,m3⟩,h⟩:=h;have hl':=E l;have hc':=E c;rw[hl] at hl';rw[hc] at hc';simp only[Rel] at hl' hc';obtain⟨i,d,hi,his,hib,hiz,_,_,hzs,hz1⟩:=ty_info (P:=P) hT hke;obtain⟨z1,z2,z3,z4⟩:=zero_sound (P:=P) hT hke w (rdOf S);have hrun:=run_make (P:=P) w t te i (C.T te).zero (und_slice hT hk) hi hiz k1 k2 n m m0 m1 (by rw[hib];omega) m3
   have hzs':=zeros_sound z2 m.toNat
   have hz1':=zeros_one z3 m.toNat
   rw[z4,← his] at hzs' hz1';obtain⟨g1,g2,g3⟩:=newObj_sound hg (e:=te) (cs:=madeCells (C.T te).zero.cells (m.toNat*i.size)) (cells:=mulL 0 (cellsOf (ofV (C.T te).zero)) m.toNat) (by unfold madeCells;rw[z4,← his];exact hzs') (by unfold madeCells;rw[z4,← his];exact hz1')
   exact op_value (v:=.slice (some ⟨w.heap.size,0,none⟩) n.toNat m.toNat) (by simp[execOp,ho,hl',hc',hrun]) (hK _ _ _ _ (h _ g1) (by simp only[Rel]) g2 g3)
  ·exact h.elim
 case h_23 x xt asserted ok ho=>
  have hx:=E x
  have conc:∀ (d:TypeDesc),(∀ ms,d≠.interface ms)→P.underlying asserted=some d→(∀ ms,(C.T asserted).kind≠.iface ms)→True:=fun _ _ _ _=>trivial
  split at h
  ·exact h.elim
  ·exact h.elim
  ·rename_i hn1 hn2
   have hkk:known C asserted=true:=by unfold known;split;(· rename_i hh;exact absurd hh hn2);rfl
   obtain⟨_,d,_,_,_,_,hd,hkd,_⟩:=ty_info (P:=P) hT hkk;have hni:∀ ms,d≠.interface ms:=fun ms hms=>by subst hms;exact hn1 _ hkd.symm
   obtain⟨z1,z2,z3,z4⟩:=zero_sound (P:=P) hT hkk w (rdOf S)
   split at h
   ·rename_i hv
    rw[hv] at hx;simp only[Rel] at hx;rw[force_eq] at h;refine same (v:=.tuple #[(C.T asserted).zero,.bool false]) h (by simp only[Rel,RelL];exact⟨_,rfl,_,_,rfl,Rel_ofV _ _ _,_,_,rfl,rfl,rfl⟩) ?_
    simp only[execOp,ho,hx,Instr.typeAssert,Sem.run_bind,run_underlying hd,Result.andThen_ok]
    cases d<;>first | (exact absurd rfl (hni _)) | simp[z1]
   ·rename_i t y hv
    rw[hv] at hx;simp only[Rel] at hx;obtain⟨u,hx,hr⟩:=hx
    split at h
    ·rename_i hb
     have hb:=Nat.eq_of_beq_eq_true hb
     rw[force_eq] at h;refine same (v:=.tuple #[u,.bool true]) h (by simp only[Rel,RelL];exact⟨_,rfl,_,_,rfl,hr,_,_,rfl,rfl,rfl⟩) ?_
     simp only[execOp,ho,hx,Instr.typeAssert,Sem.run_bind,run_underlying hd,Result.andThen_ok]
     cases d<;>first | (exact absurd rfl (hni _)) | simp[hb]
    ·rename_i hb
     have hb:¬ t=asserted:=fun hh=>by rw[hh,Nat.beq_refl] at hb;cases hb
     rw[force_eq] at h;refine same (v:=.tuple #[(C.T asserted).zero,.bool false]) h (by simp only[Rel,RelL];exact⟨_,rfl,_,_,rfl,Rel_ofV _ _ _,_,_,rfl,rfl,rfl⟩) ?_
     simp only[execOp,ho,hx,Instr.typeAssert,Sem.run_bind,run_underlying hd,Result.andThen_ok]
     cases d<;>first | (exact absurd rfl (hni _)) | simp[hb,z1]
   ·rename_i t y hv
    rw[hv] at hx;simp only[Rel] at hx;obtain⟨u,hx,hr⟩:=hx;rw[when_iff,force_eq] at h;obtain⟨hb,h⟩:=h;have hb:=Nat.eq_of_beq_eq_true hb;refine same (v:=u) h hr ?_;simp only[execOp,ho,hx,Instr.typeAssert,Sem.run_bind,run_underlying hd,Result.andThen_ok]
    cases d<;>first | (exact absurd rfl (hni _)) | simp[hb]
   ·exact h.elim
 case h_24 t ho=>
  split at h
  ·rename_i kt et hk
   have hS:=hg.1.fresh
   have hadv:=Adv.allocOwn (w:=w) (.map #[] 0) (.mapo []) hS
   refine op_value (v:=.map (some w.heap.size)) ?_ (hK _ _ _ _ (h _ hS) (by simp only[Rel]) (hg.mk (hg.1.allocOwn _ _ ⟨#[],0,heap_alloc_new w _,by simp[RelL],by simp[RelL],by simp[BornOk]⟩) hadv) hadv)
   simp[execOp,ho,Instr.makeMap,newObj,Sem.run]
  ·exact h.elim
 case h_25 t m k v ho=>
  have hm:=E m
  split at h
  ·rename_i kt et r hk hv
   rw[hv] at hm;simp only[Rel] at hm;rw[force_eq,force_eq,when_iff] at h;obtain⟨hok,es,hS,h⟩:=h;obtain⟨es',w',k1,k2,k3,k4⟩:=mapUpdate_sound (P:=P) hT hg hk (E k) (E v) hok hS h;exact op_skip (by simp[execOp,ho,hm,k4]) (hK .top _ _ _ k1 (by simp only[Rel]) k2 k3)
  ·exact h.elim
 case h_26 t m k v ho=>
  have hm:=E m
  split at h
  ·rename_i kt et r hk hv
   rw[hv] at hm;simp only[Rel] at hm;rw[force_eq,force_eq,when_iff] at h;obtain⟨hok,es,hS,h⟩:=h;obtain⟨es',w',k1,k2,k3,k4⟩:=mapUpdate_sound (P:=P) hT hg hk (E k) (E v) hok hS h;exact op_skip (by simp[execOp,ho,hm,k4]) (hK .top _ _ _ k1 (by simp only[Rel]) k2 k3)
  ·exact h.elim
 case h_27 t m k ok ho=>
  have hm:=E m
  have fin:∀ {kt et:Nat} {es:List (AV×AV)},(C.T t).kind=.map kt et→keyOk C kt (e k)=true→known C et=true→((a.eval m=.map none∧es=[])∨∃ r,a.eval m=.map (some r)∧S r=some (.mapo es))→
   aFindK (e k) es (fun v=>K (okV ok v true) S) (K (okV ok (ofV (C.T et).zero) false) S)→o.wp P a w next Q:=by
   intro kt et es hk hok hke hm' hh
   rcases lookup_sound (P:=P) hT hg hk (E k) hok hke hm' hh ok with ⟨v,u,k1,k2,k3⟩ | ⟨k1,k3⟩
   ·refine same k1 ?_ (by simp only[execOp,ho];rw[Sem.run_bind,k3];rfl)
    cases ok
    ·exact k2
    ·simp only[Rel,RelL];exact⟨_,rfl,_,_,rfl,k2,_,_,rfl,rfl,rfl⟩
   ·refine same k1 ?_ (by simp only[execOp,ho];rw[Sem.run_bind,k3];rfl)
    cases ok
    ·exact Rel_ofV _ _ _
    ·simp only[Rel,RelL];exact⟨_,rfl,_,_,rfl,Rel_ofV _ _ _,_,_,rfl,rfl,rfl⟩
  split at h
  ·rename_i kt et r hk hv
   rw[hv] at hm;simp only[Rel] at hm;simp only[force_eq,when_iff,Bool.and_eq_true] at h;obtain⟨⟨hok,hke⟩,es,hS,h⟩:=h;exact fin hk hok hke (.inr ⟨r,hm,hS⟩) (by cases ok<;>exact h)
  ·rename_i kt et hk hv
   rw[hv] at hm;simp only[Rel] at hm;simp only[force_eq,when_iff,Bool.and_eq_true] at h;obtain⟨⟨hok,hke⟩,h⟩:=h;exact fin (es:=[]) hk hok hke (.inl ⟨hm,rfl⟩) (by cases ok<;>exact h)
  ·exact h.elim
 case h_28 t x ho=>
  split at h
  ·rename_i s hk hv
   have hu:=und_str hT hk
   have hx:=E x
   rw[hv] at hx;simp only[Rel] at hx;have hS:=hg.1.fresh;have hadv:=Adv.allocOwn (.stringIter s 0) (.siter s 0) hS;refine op_value (v:=.pointer (some ⟨w.heap.size,0,none⟩)) ?_ (hK _ _ _ _ (h _ hS) (by simp only[Rel]) (hg.mk (hg.1.allocOwn _ _ (heap_alloc_new w _)) hadv) hadv)
   simp[execOp,ho,hx,Instr.range,run_underlying hu,newObj,Sem.run]
  ·rename_i kt et r hk hv
   have hu:=und_map hT hk
   have hx:=E x
   rw[hv] at hx;simp only[Rel] at hx;obtain⟨es,hS,h⟩:=h;obtain⟨ms,clock,hb,h1,h2,h3⟩:=hg.1 r _ hS;have hgd:Good C w (S.del r):=hg.mk (hg.1.del r) (Adv.del r);have hS':=hgd.1.fresh;have hadv:=Adv.allocOwn (w:=w) (.mapIter (some r) clock #[] clock) (.miter none es) hS';have hlt:r<w.heap.size:=lt_of_block hb;have hne:r≠w.heap.size:=Nat.ne_of_lt hlt;refine op_value (v:=.pointer (some ⟨w.heap.size,0,none⟩)) ?_ (hK _ _ _ _ (h _ hS') (by simp only[Rel]) (hgd.mk (hgd.1.allocOwn _ _ ⟨some r,clock,#[],clock,heap_alloc_new w _,fun off=>?_,ms,?_,rfl,h3,?_,?_,fun _ hh=>by cases hh⟩) hadv) ((Adv.del r).trans hadv))
   ·simp[execOp,ho,hx,Instr.range,run_underlying hu,newObj,getObj,Sem.run,hb]
   ·simp only[rdOf,St.upd_ne _ _ _ _ hne,St.del_same]
   ·rw[heap_alloc_lt w _ hlt];exact hb
   ·rw[List.filter_eq_self.2 (by simp)];exact RelL.mono ((Adv.del r).trans hadv) _ _ h1
   ·rw[List.filter_eq_self.2 (by simp)];exact RelL.mono ((Adv.del r).trans hadv) _ _ h2
  ·rename_i kt et hk hv
   have hu:=und_map hT hk
   have hx:=E x
   rw[hv] at hx;simp only[Rel] at hx;have hS:=hg.1.fresh;have hadv:=Adv.allocOwn (w:=w) (.mapIter none 0 #[] 0) (.miter none []) hS;refine op_value (v:=.pointer (some ⟨w.heap.size,0,none⟩)) ?_ (hK _ _ _ _ (h _ hS) (by simp only[Rel]) (hg.mk (hg.1.allocOwn _ _ ⟨none,0,#[],0,heap_alloc_new w _,rfl,rfl⟩) hadv) hadv)
   simp[execOp,ho,hx,Instr.range,run_underlying hu,newObj,Sem.run]
  ·exact h.elim
 case h_29 x ho=>
  split at h
  ·rename_i b hv
   obtain⟨s,pos,hS,h⟩:=h;have hb:w.heap[b]? = some (.stringIter s pos):=hg.1 b _ hS;have hx:=E x;rw[hv] at hx;simp only[Rel] at hx;rw[split_iff] at h
   by_cases hp:pos<s.size
   ·have hrun:=Lib.run_next_any_at (P:=P) w b s pos o.type hb hp
    refine op_value (v:=.tuple #[.bool true,.int .i64 pos,.int .i32 (Utf8.decode s pos).1]) ?_ (hK _ _ _ _ (h.1 (decide_eq_true hp)) ?_ (hg.setIter hS _) (Adv.setIter hS hb _))
    ·simp only[execOp,ho,hx];rw[Sem.run_bind,hrun];rfl
    ·simp[Rel,RelL]
   ·have hrun:=Lib.run_next_end_at (P:=P) w b s pos o.type hb hp
    refine same (v:=.tuple #[.bool false]) (h.2 (decide_eq_false hp)) (by simp[Rel,RelL]) ?_
    simp only[execOp,ho,hx];rw[Sem.run_bind,hrun];rfl
  ·exact h.elim
 case h_30 x ho=>
  split at h
  ·rename_i b hv
   obtain⟨cur,left,hS,h0,h1⟩:=h;have hx:=E x;rw[hv] at hx;simp only[Rel] at hx;obtain⟨z,v,w',S',k1,k2,k3,k4,k5⟩:=next_map_sound (P:=P) hg hS o.type h0 h1;exact op_value (by simp only[execOp,ho,hx];rw[Sem.run_bind,k5];rfl) (hK _ _ _ _ k1 k2 k3 k4)
  ·exact h.elim
 case h_31 x ho=>
  split at h
  ·rename_i b hv
   obtain⟨kv,left,hS,h⟩:=h;have hx:=E x;rw[hv] at hx;simp only[Rel] at hx;obtain⟨v,k1,k2⟩:=entry_map_sound (P:=P) hg hS;exact same h k1 (by simp only[execOp,ho,hx];rw[Sem.run_bind,k2];rfl)
  ·exact h.elim
 case h_32 x ho=>
  have hx:=E x
  split at h
  ·rename_i t y hv
   rw[hv] at hx;have hx':=hx;simp only[Rel] at hx';obtain⟨u,e1,_⟩:=hx';refine op_panic (v:=a.eval x) ?_ (hQ _ _ _ _ h hx hg (Adv.refl w S))
   simp[execOp,ho,e1,Instr.panic]
  ·exact h.elim
 case h_33 c ho=>
  split at h
  ·rename_i b hc
   obtain⟨z,v,w',S',k1,k2,k3,k4,k5⟩:=aBuiltin_sound (P:=P) hT hg (ty:=o.type) (vs:=c.args.map a.eval) (by simpa using evL_of E c.args.toList) h
   refine op_value ?_ (hK _ _ _ _ k1 k2 k3 k4)
   simp[execOp,ho,resolve,hc,invoke,k5]
  ·rename_i f hc
   unfold aCall at h
   split at h
   ·rename_i g first cap hf
    rw[forceL_eq] at h;have hx:=E f;rw[hf] at hx;simp only[Rel] at hx;obtain⟨b1,b2,e1,r1,r2⟩:=hx;have hargs:RelL w (rdOf S) (first++(c.args.toList.map (e))++cap) (b1++c.args.map a.eval++b2).toList:=by
     simp only[Array.toList_append,Array.toList_map];exact RelL.append (RelL.append r1 (evL_of E c.args.toList)) r2
    have hcall:=h.out w _ (fun y hy=>hY y hy) hg hargs
    have hrun:(execOp a.eval o).run P w=(callFunc g (b1++c.args.map a.eval++b2)).run P w:=by
     simp[execOp,ho,resolve,hc,e1,Deferred.ofValue,invoke]
    unfold Oper.wp;have fin:∀ e w',(∃ o S',OutRel w' S' o e∧Good C.call w' S'∧Adv w S w' S'∧(match o with | .ret x=>K x S' | .pan x=>Qp x S'))→(match e with
     | .returned v=>next (a.put o.dst v) w'
     | .panicked chain=>Q (.panic chain) a w'
     | .outgrown=>LetsOut Q):=fun e w' hpost=>by
     obtain⟨o',S',h1,h2,h3,h4⟩:=hpost
     cases o' with
     | ret x=>
       cases e with
       | returned v=>exact hK _ _ _ _ h4 h1 h2 h3
       | panicked chain=>exact h1.elim
       | outgrown=>exact h1.elim
     | pan x=>
       cases e with
       | returned v=>exact h1.elim
       | panicked chain=>
         obtain⟨v,rfl,hv⟩:=h1;exact hQ _ _ _ _ h4 hv h2 h3
       | outgrown=>exact h1.elim
    rcases hcall with ⟨k1,k2⟩ | ⟨v,w',k1,k2⟩
    ·rw[hrun,k1,Oper.upon_enter];refine k2.mono fun e w' hpost=>?_
     have:=fin e w' hpost
     cases e<;>exact this
    ·rw[hrun,k1,Oper.upon_value];exact fin (.returned v) w' k2
   ·exact h.elim
  ·exact h.elim
 case h_34=>exact h.elim
def Fr(r:Option Nat):Fence:={ Fence.wide with round:=r }
theorem wpIn_of_wp{r:Option Nat}{m:Nat}{o:Oper}{a:Act}{w:World}{next:Act→World→Prop}{Q:Exit→Act→World→Prop}(hnd:∀ c,o.op≠.defer c)(h:o.wp P a w next Q):o.wpIn (Fr r) m P a w next Q:=by
 refine⟨fun _ _=>trivial,?_⟩
 rw[Oper.semAt_eq _ _ _ hnd];unfold Oper.wp Oper.upon at h;unfold Oper.uponIn
 split at h
 ·rename_i heq;rw[heq];exact h
 ·rename_i heq;rw[heq];exact h
 ·rename_i heq;rw[heq];exact h
 ·rename_i heq;rw[heq]
  refine⟨fun hh=>by simp[Fr,Fence.wide] at hh,?_⟩
  exact callsIn_wide.2 h
 ·rename_i heq;rw[heq]
  refine⟨fun hh=>by simp[Fr,Fence.wide] at hh,?_⟩
  intro c cs _;obtain⟨v,w',h1,h2⟩:=h c cs;exact⟨v,w',h1,stepsIn_wide.2 h2⟩
 ·rename_i heq;rw[heq];exact h
 ·exact h.elim
theorem aOpE_nd{o:Oper}{e:Operand→AV}{S:St}{K Qp:AV→St→Prop}(h:aOpE P C o e S K Qp):∀ c,o.op≠.defer c:=fun c hc=>by
 unfold aOpE at h;rw[hc] at h;exact h
theorem aOp_sound(hT:TyOk P C){r:Option Nat}{m:Nat}{o:Oper}{a:Act}{w:World}{S:St}{env:Env}{n:Nat}(hY:YOk P C w S)(hg:Good C w S)(he:RelEnv w S a.tmps env n){K Qp:AV→St→Prop}(h:aOp P C o env S K Qp)
 {next:Act→World→Prop} {Q:Exit→Act→World→Prop}
 (hK:∀ x v w' S',K x S'→Rel w' (rdOf S') x v→Good C w' S'→Adv w S w' S'→next (a.put o.dst v) w')
 (hQ:∀ x v w' S',Qp x S'→Rel w' (rdOf S') x v→Good C w' S'→Adv w S w' S'→Q (.panic [{ v,recovered:=false }]) a w') :
 o.wpIn (Fr r) m P a w next Q:=by
 have main:∀ {K:AV→St→Prop},(∀ x v w' S',K x S'→Rel w' (rdOf S') x v→Good C w' S'→Adv w S w' S'→next (a.put o.dst v) w')→aOpE P C o (ev C env) S K Qp→o.wpIn (Fr r) m P a w next Q:=fun hK h=>wpIn_of_wp (aOpE_nd h) (aOpE_sound hT hY hg (fun x=>ev_sound hg he x) h hK hQ)
 unfold aOp at h
 split at h
 ·rename_i c ho
  split at h
  ·rename_i t t' s x hc ht hx
   split at h
   ·rename_i b n cap hs
    obtain⟨z,v,w',S',k1,k2,k3,k4,k5⟩:=aAppendArr_sound (P:=P) hT hg (ty:=o.type) (ev_sound hg he x) h;have hsv:=ev_sound hg he s;rw[hs] at hsv;simp only[Rel] at hsv;refine wpIn_of_wp (fun c' hc'=>by rw[ho] at hc';cases hc') (op_value (v:=v) ?_ (hK _ _ _ _ k1 k2 k3 k4))
    have e1:c.args.map a.eval=#[.slice (some ⟨b,0,none⟩) n cap,a.eval x]:=by
     have:c.args=#[s,x]:=arr_of_list hx
     rw[this];simp[hsv]
    simp[execOp,ho,resolve,hc,invoke,e1,arr_of_list ht,builtin,k5]
   ·rename_i k hs
    have hsv:=ev_sound hg he s
    obtain⟨z,v,w',S',k1,k2,k3,k4,k5⟩:=aAppendNil_sound (P:=P) hT hg (ty:=o.type) hs hsv (ev_sound hg he x) h;refine wpIn_of_wp (fun c' hc'=>by rw[ho] at hc';cases hc') (op_value (v:=v) ?_ (hK _ _ _ _ k1 k2 k3 k4))
    have e1:c.args.map a.eval=#[a.eval s,a.eval x]:=by
     have:c.args=#[s,x]:=arr_of_list hx
     rw[this];simp
    simp[execOp,ho,resolve,hc,invoke,e1,arr_of_list ht,builtin,k5]
   ·rename_i k hs
    cases hA:C.A with
    | false=>rw[hA] at h;exact main hK h
    | true=>
      rw[hA] at h;simp only[cond_true] at h;have hsv:=ev_sound hg he s;obtain⟨z,v,w',S',k1,k2,k3,k4,k5⟩:=aAppendNew_sound (P:=P) hT hg (ty:=o.type) hs hsv (ev_sound hg he x) h;refine wpIn_of_wp (fun c' hc'=>by rw[ho] at hc';cases hc') (op_value (v:=v) ?_ (hK _ _ _ _ k1 k2 k3 k4))
      have e1:c.args.map a.eval=#[a.eval s,a.eval x]:=by
       have:c.args=#[s,x]:=arr_of_list hx
       rw[this];simp
      simp[execOp,ho,resolve,hc,invoke,e1,arr_of_list ht,builtin,k5]
   ·exact main hK h
  ·rename_i f hc
   split at h
   ·rename_i l hf
    split at h
    ·rename_i y hy
     obtain⟨rfl,h⟩:=h;rw[forceL_eq] at h;have hx:=ev_sound hg he f;rw[hf] at hx;simp only[Rel] at hx;obtain⟨b1,b2,e1,r1,r2⟩:=hx;simp only[RelL] at r1 r2;have hb1:b1=#[]:=by simpa using r1
     have hb2:b2=#[]:=by simpa using r2
     subst hb1 hb2;have hargs:RelL w (rdOf S) (c.args.toList.map (ev C env)) (c.args.map a.eval).toList:=by
      simp only[Array.toList_map];exact evL_of (fun x=>ev_sound hg he x) c.args.toList
     obtain⟨fn,tmps,assign,body,hrun,hround⟩:=hY y hy _ S _ h w (c.args.map a.eval) (m-1) (Adv.refl w S) hg hargs;have hop:(execOp a.eval o).run P w=.ok (.round y.l fn tmps assign body) w:=by
      simp[execOp,ho,resolve,hc,e1,Deferred.ofValue,invoke,callFunc]
      simpa using hrun
     refine⟨fun _ _=>trivial,?_⟩
     rw[Oper.semAt_eq _ _ _ (fun c' hc'=>by rw[ho] at hc';cases hc'),hop,Oper.uponIn_round]
     refine⟨fun hh=>by simp[Fr,Fence.wide] at hh,?_⟩
     refine RoundIn.mono (F:=Fr r) hround ?_;rintro e w' ⟨b,S',rfl,k1,k2,k3⟩;exact hK _ _ _ _ k3 (by simp only[Rel]) k1 k2
    ·exact h.elim
   ·exact main hK h
  ·exact main hK h
 ·exact main hK h
end
end Go.Proofs.YtjpboanohpaibaaGreatDoor.Aw

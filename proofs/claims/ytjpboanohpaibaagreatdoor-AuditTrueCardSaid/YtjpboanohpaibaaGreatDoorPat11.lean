/- A store that is laid over another one: what a function's own objects are, block by block. No condition. A list of string -/
import Derived.Test.YtjpboanohpaibaaGreatDoorPat5
import Derived.Test.YtjpboanohpaibaaGreatDoorPat7
import Derived.Test.YtjpboanohpaibaaGreatDoorPat10
import Derived.Test.YtjpboanohpaibaaGreatDoorPat9
import Derived.Lib.RowBridge
set_option linter.all false
namespace Go.Proofs.YtjpboanohpaibaaGreatDoor.Aw
open Go Go.RowKit
def ov(S₀:St):List (Nat×Own)→St
 | []=>S₀
 | (b,o)::r=>(ov S₀ r).upd b o
structure FpOk (S₀:St) (fp:List (Nat×Own)):Prop where
 nd:(fp.map (·.1)).Nodup
 new:∀ p∈fp,S₀ p.1=none
theorem FpOk.nil(S₀:St):FpOk S₀ []:=⟨by simp,by simp⟩
theorem ov_out{S₀:St}:∀ {fp:List (Nat×Own)} {b:Nat},b ∉ fp.map (·.1)→ov S₀ fp b=S₀ b
 | [],b,h=>rfl
 | (c,o)::r,b,h=>by
  simp only[List.map_cons,List.mem_cons,not_or] at h;simp only[ov,St.upd_ne _ _ _ _ h.1];exact ov_out h.2
theorem ov_get{S₀:St}:∀ {fp:List (Nat×Own)},(fp.map (·.1)).Nodup→∀ {b o},(b,o)∈fp→ov S₀ fp b=some o
 | [],_,b,o,h=>by cases h
 | (c,p)::r,hn,b,o,h=>by
  simp only[List.map_cons,List.nodup_cons] at hn
  rcases List.mem_cons.1 h with h | h
  ·cases h;simp only[ov,St.upd_same]
  ·have:b≠c:=fun e=>hn.1 (by rw[← e];exact List.mem_map.2 ⟨_,h,rfl⟩)
   simp only[ov,St.upd_ne _ _ _ _ this];exact ov_get hn.2 h
theorem ov_none{S₀:St}{fp:List (Nat×Own)}(hn:(fp.map (·.1)).Nodup){b:Nat}(h:ov S₀ fp b=none):S₀ b=none∧b ∉ fp.map (·.1):=by
 by_cases hb:b∈fp.map (·.1)
 ·obtain⟨⟨c,o⟩,h1,rfl⟩:=List.mem_map.1 hb;rw[ov_get hn h1] at h;cases h
 ·exact⟨(ov_out (S₀:=S₀) hb).symm.trans h,hb⟩
theorem FpOk.set{S₀:St}{b:Nat}{o:Own}{pre post:List (Nat×Own)}(h:FpOk S₀ (pre++(b,o)::post))(o':Own):FpOk S₀ (pre++(b,o')::post):=by
 refine⟨by simpa using h.nd,fun p hp=>?_⟩
 simp only[List.mem_append,List.mem_cons] at hp
 rcases hp with hp | rfl | hp
 ·exact h.new p (by simp[hp])
 ·exact h.new (b,o) (by simp)
 ·exact h.new p (by simp[hp])
theorem FpOk.add{S₀:St}{b:Nat}{pre post:List (Nat×Own)}(h:FpOk S₀ (pre++post))(hb:ov S₀ (pre++post) b=none)(o:Own):FpOk S₀ (pre++(b,o)::post):=by
 obtain⟨h1,h2⟩:=ov_none h.nd hb;refine⟨?_,fun p hp=>?_⟩
 ·have hn:=h.nd
  simp only[List.map_append,List.map_cons] at hn h2 ⊢;rw[List.nodup_append] at hn ⊢;obtain⟨n1,n2,n3⟩:=hn;simp only[List.mem_append,not_or] at h2;refine⟨n1,List.nodup_cons.2 ⟨h2.2,n2⟩,fun x hx y hy=>?_⟩
  rcases List.mem_cons.1 hy with rfl | hy
  ·exact fun e=>h2.1 (by rw[← e];exact hx)
  ·exact n3 x hx y hy
 ·simp only[List.mem_append,List.mem_cons] at hp
  rcases hp with hp | rfl | hp
  ·exact h.new p (by simp[hp])
  ·exact h1
  ·exact h.new p (by simp[hp])
theorem FpOk.sub{S₀:St}{fp fp':List (Nat×Own)}(h:FpOk S₀ fp)(hs:List.Sublist fp' fp):FpOk S₀ fp':=
 ⟨List.Nodup.sublist (hs.map _) h.nd,fun p hp=>h.new p (hs.subset hp)⟩
theorem FpOk.drop{S₀:St}{b:Nat}{o:Own}{pre post:List (Nat×Own)}(h:FpOk S₀ (pre++(b,o)::post)):FpOk S₀ (pre++post):=
 h.sub ((List.Sublist.refl pre).append (List.sublist_cons_self _ _))
structure AccL where
 b:Nat
 es:List (List AV)
def AccL.av(a:AccL):AV:=.sl (.acc a.b) 1 a.es
def AccL.fp(a:AccL)(e:TypeId):List (Nat×Own):=match a.es with | []=>[] | r::rs=>[(a.b,.tip e 1 (r::rs).length)]
def AccL.empty:AccL:=⟨0,[]⟩
def AccL.push(a:AccL)(b:Nat)(x:AV):AccL:=⟨b,a.es++[[x]]⟩
theorem AccL.tip{S₀:St}{pre post:List (Nat×Own)}{a:AccL}{e:TypeId}(h:FpOk S₀ (pre++(a.fp e++post)))(hn:a.es≠[]):ov S₀ (pre++(a.fp e++post)) a.b=some (.tip e 1 a.es.length):=by
 refine ov_get h.nd ?_;obtain⟨b,es⟩:=a
 cases es with
 | nil=>exact absurd rfl hn
 | cons r rs=>simp[AccL.fp]
theorem aPart_cell{C:Cx}{t:TypeId}{cells:List AV}{off:Nat}{K:AV→Prop}{x:AV}(ha:(C.T t).agg=false)(hx:cells[off]? = some x)(h:K x):aPart C t cells off K:=by
 unfold aPart;rw[ha];dsimp only;have hd:cells.drop off=x::cells.drop (off+1):=by
  have hlt:off<cells.length:=by
   rcases Nat.lt_or_ge off cells.length with h | h
   ·exact h
   ·rw[List.getElem?_eq_none h] at hx;cases hx
  rw[List.drop_eq_getElem_cons hlt];rw[List.getElem?_eq_getElem hlt] at hx
  cases hx;rfl
 rw[hd]
 simpa only[force_eq] using h
theorem AV.le_refl:∀ x,AV.le x x
 | .sl sh k es=>by cases sh<;>simp[AV.le,Sh.mayNil]
 | .int _ _=>rfl
 | .bool _=>rfl
 | .str _=>rfl
 | .nilp=>rfl
 | .ref _ _=>rfl
 | .imm _=>rfl
 | .nils=>rfl
 | .arr _ _ _ _=>rfl
 | .ag _=>rfl
 | .tu _=>rfl
 | .nilf=>rfl
 | .fn _ _ _=>rfl
 | .nili=>rfl
 | .ifc _ _=>rfl
 | .nilm=>rfl
 | .mp _=>rfl
 | .raw _=>rfl
 | .top=>by simp[AV.le]
theorem leL_refl:∀ xs,leL xs xs
 | []=>trivial
 | x::xs=>⟨AV.le_refl x,leL_refl xs⟩
theorem Triple.lessW{P:Program}{C:Cx}{f:FuncId}{args:List AV}{S:St}{Q Q':Out→St→Prop}(h:Triple P C f args S Q)(hq:∀ o S',Q o S'→∃ S'',Q' o S''∧St.leW S'' S'):Triple P C f args S Q':=
 ⟨fun w vs hY hg hr=>(h.out w vs hY hg hr).mono fun e w' ⟨o,S',h1,h2,h3,h4⟩=>by
  obtain⟨S'',k1,k2⟩:=hq o S' h4;refine⟨o,S'',?_,h2.weakS k2,h3.trans (Adv.weakS k2 (Adv.refl _ _)),k1⟩
  cases o<;>cases e<;>first | exact h1.elim | skip
  ·show Rel w' (rdOf S'') _ _
   rw[St.leW_rd k2];exact h1
  ·obtain⟨v,rfl,hv⟩:=h1;exact⟨v,rfl,by rw[St.leW_rd k2];exact hv⟩⟩
theorem St.emp_le(S:St):St.le St.emp S:=fun b o h=>by cases h
theorem RelL_tops(w:World)(rd):∀ vs:List Value,RelL w rd (List.replicate vs.length AV.top) vs
 | []=>by simp[RelL]
 | v::vs=>by
   simp only[List.length_cons,List.replicate_succ,RelL];exact⟨_,_,rfl,by simp only[Rel],RelL_tops w rd vs⟩
set_option maxRecDepth 100000
variable {G:Nat→Option (List AV)}
theorem RelL_ints_inv(w:World)(rd):∀ (l:List Int) (vs:List Value),RelL w rd (rowsI l).flatten vs→vs=l.map (Value.int .i64)
 | [],vs,h=>by simpa [rowsI,RelL] using h
 | s::l,vs,h=>by
   simp only[rowsI,List.map_cons,List.flatten_cons,List.singleton_append,RelL] at h;obtain⟨u,us,rfl,h1,h2⟩:=h;simp only[Rel] at h1;rw[RelL_ints_inv w rd l us h2,h1];rfl
theorem RelL_int'(w:World)(rd):∀ l:List Int,RelL w rd (l.map (AV.int .i64)) (l.map (Value.int .i64))
 | []=>by simp[RelL]
 | s::l=>by
   simp only[List.map_cons,RelL];exact⟨_,_,rfl,by simp only[Rel],RelL_int' w rd l⟩
theorem Triple.thawI{C:Cx}{f:FuncId}{args:List AV}{l:List Int}{e:TypeId}(hne:l≠[])(h:Triple P C f args St.emp fun o S'=>∃ b,St.emp b=none∧o=.ret (.sl (.acc b) 1 (rowsI l))∧S'=St.emp.upd b (.tip e 1 l.length))(S:St) :
 Triple P C f args S fun o S'=>∃ b cap junk,S b=none∧o=.ret (.arr b 0 l.length cap)∧S'=S.upd b (.obj e (l.map (AV.int .i64)++junk))∧l.length≤cap∧cap≤l.length+junk.length∧cap≤maxLen:=by
 refine⟨fun w vs hY hg hr=>(h.out w vs (hY.mono (Adv.shrink (St.emp_le S))) (hg.shrink (St.emp_le S)) (RelL.mono (Adv.shrink (St.emp_le S)) _ _ hr)).mono fun en w' ⟨o,S',h1,h2,h3,b,_,ho,hS⟩=>?_⟩
 subst ho;subst hS
 cases en with
 | returned v=>
   have hne':rowsI l≠[]:=by cases l with
    | nil=>exact absurd rfl hne
    | cons _ _=>simp[rowsI]
   simp only[OutRel,Rel,Sh.mayNil,hne',false_and,and_false,false_or] at h1;obtain⟨b1,off,cap,rfl,hlc,hmax,⟨_,hbb,hoff,e',hsh⟩,hrows⟩:=h1;subst hbb;subst hoff;rw[rowsI_len] at hlc;obtain⟨cur,cap',c1,c2,c3,c4,c5⟩:=h2.1 b _ (St.upd_same _ _ _);have hcap:cur.size=cap:=by
    simp only[World.shape?,c1,Option.some.injEq,Prod.mk.injEq] at hsh;omega
   have hb:¬ b<w.heap.size:=fun hlt=>by
    have:=(h3.old b hlt rfl).1
    rw[St.upd_same] at this;cases this
   have hSb:S b=none:=by
    cases hh:S b with
    | none=>rfl
    | some o=>exact absurd (hg.1.lt hh) hb
   obtain⟨us,r1,r2,r3,r4,r5⟩:=RelRows.cells hrows;have hus:=RelL_ints_inv _ _ l us r1;have hcur:cur.toList=l.map (Value.int .i64)++cur.toList.drop l.length:=by
    apply List.ext_getElem?
    intro j
    by_cases hj:j<l.length
    ·have hj2:(l.map (Value.int .i64))[j]? = some (Value.int .i64 l[j]):=by simp[hj]
     have:=r2 j _ (by rw[hus];exact hj2)
     rw[Nat.zero_add,cell_of_row _ b j cur e (0,0) c1] at this;rw[List.getElem?_append_left (by simpa using hj),hj2,Array.getElem?_toList,this]
    ·rw[List.getElem?_append_right (by simp;omega),List.getElem?_drop]
     simp only[List.length_map]
     congr 1;omega
   have hadv:Adv w S w' (S.upd b (.obj e (l.map (AV.int .i64)++List.replicate (cur.toList.drop l.length).length AV.top))):=by
    have hne:∀ x,x<w.heap.size→x≠b:=fun x hx hh=>hb (hh ▸ hx)
    exact⟨h3.os,h3.tape,h3.output,h3.size,fun x hx hn=>⟨by rw[St.upd_ne _ _ _ _ (hne x hx)];exact hn,(h3.old x hx rfl).2⟩,
     fun x off hx hr=>⟨by simp only[rdOf,St.upd_ne _ _ _ _ (hne x hx)];exact hr,cell_of_block (h3.old x hx rfl).2 off⟩,h3.shape⟩
   refine⟨.ret (.arr b 0 l.length cap),_,by simp only[OutRel,Rel,rowsI_len],hg.mk (fun x o ho=>?_) hadv,hadv,b,cap,_,hSb,rfl,rfl,hlc,by simp[hcap];omega,hmax⟩
   by_cases hx:x=b
   ·subst hx;rw[St.upd_same] at ho;cases ho;exact⟨cur,c1,by rw[hcur];exact RelL.append (RelL_int' _ _ l) (by simpa using RelL_tops _ _ (cur.toList.drop l.length)),c5⟩
   ·rw[St.upd_ne _ _ _ _ hx] at ho;exact OwnOk.mono hadv (h3.old x (hg.1.lt ho) rfl).2 (hg.1 x o ho)
 | _=>exact h1.elim
theorem Triple.freezeF{C:Cx}{f g:FuncId}{x:AV}{S:St}{b:Nat}{e:TypeId}{cells:List AV}{Q:Out→St→Prop}(hS:S b=some (.obj e cells))(hx:∀ w v,Rel w (rdOf S) x v→Rel w (rdOf (S.del b)) x v)(h:Triple P C f [x,.fn (.func g) [] [.imm cells]] (S.del b) Q) :
 Triple P C f [x,.fn (.func g) [] [.ref b 0]] S Q:=by
 have hle:St.le (S.del b) S:=fun y o hy=>by
  by_cases hyb:y=b
  ·subst hyb;rw[St.del_same] at hy;cases hy
  ·rwa [St.del_ne _ _ _ hyb] at hy
 refine⟨fun w vs hY hg hr=>(h.out w vs (hY.mono (Adv.shrink hle)) (hg.shrink hle) ?_).mono fun en w' ⟨o,S',h1,h2,h3,hq⟩=>⟨o,S',h1,h2,(Adv.shrink hle).trans h3,hq⟩⟩
 simp only[RelL] at hr ⊢;obtain⟨u,us,e1,h1,u2,us2,rfl,h2,rfl⟩:=hr;refine⟨u,_,e1,hx _ _ h1,u2,_,rfl,?_,rfl⟩;simp only[Rel,RelL] at h2 ⊢;obtain⟨a,c,rfl,h3,v,vs',h4,rfl,rfl⟩:=h2;refine⟨a,c,rfl,h3,_,_,h4,⟨b,0,rfl,?_⟩,rfl⟩;obtain⟨cs,k1,k2,k3,k4⟩:=obj_cells hg.1 hS;exact RelAt.of_cells (RelL.mono (Adv.shrink hle) _ _ k2) k4 k3 (fun i hi'=>by simp only[rdOf,St.del_same])
theorem rowsI_add1(l:List Int)(x:Int):rowsI l++[[AV.int .i64 x]]=rowsI (l++[x]):=by simp[rowsI]
theorem each_ok(xs:List Int)(hn:xs.length≤100000000){g:FuncId}{caps:List AV}{f:Int→Int}{S:St}(hf:∀ x∈xs,∀ S1,St.le S S1→Triple P (C G) g (.int .i64 x::caps) S1 fun o S'=>o=.ret (.int .i64 (f x))∧S'=S1)(hne:xs≠[]) :
 Triple P (C G) 78 [.sl .any 1 (rowsI xs),.fn (.func g) [] caps] S fun o S'=>∃ b,S b=none∧o=.ret (.sl (.acc b) 1 (rowsI (xs.map f)))∧S'=S.upd b (.tip 3 1 (xs.map f).length):=by
 refine triple_of_awp (hT G) hm Tryz.func78 rfl (by decide +kernel) rfl (by decide +kernel) (by show 2≤_;decide +kernel) rfl ?_
 conv=>whnf
 intro _;conv=>whnf
 refine⟨⟨Nat×Nat,fun(i,ba)=>[(1,.fn (.func g) [] caps),(5,.sl (.acc ba) 1 (rowsI ((xs.take i).map f))),(8,.sl .any 1 (rowsI xs)),(9,.int .i64 (xs.length:Int)),(10,.int .i64 (i:Int))],
  fun(i,ba) S1=>AccOk S S1 3 1 ba i∧i≤xs.length,fun(i,_)=>xs.length-i⟩,
  ⟨(0,0),⟨rfl,rfl,⟨rfl,rfl⟩,congrArg (AV.int .i64) (by rw[rowsI_len]),rfl,trivial⟩,_,St.leW_refl _,AccOk.init _ _ _ _,by omega⟩,?_⟩
 rintro⟨i,ba⟩ S1 ⟨h1,h2⟩;have hlen:((xs.take i).map f).length=i:=by simp;omega
 conv=>whnf
 refine split_of (fun hlt=>?_) (fun hlt=>?_)
 ·have hlt:i<xs.length:=by have:=of_decide_eq_true hlt;omega
  have hsn:(xs.take (i+1)).map f=(xs.take i).map f++[f xs[i]]:=by rw[List.take_add_one,List.map_append];simp[hlt]
  have hz:=hf _ (List.getElem_mem hlt) S1 h1.le
  have hgr:(rowsI xs)[(i:Int).toNat]? = some [.int .i64 xs[i]]:=by simp[rowsI,hlt]
  generalize xs[i]=z at *;conv=>whnf
  refine⟨_,⟨by omega,hgr⟩,?_⟩
  conv=>whnf
  rw[forceL_eq];refine hz.mono ?_;rintro o T ⟨rfl,rfl⟩;generalize f z=y at *;conv=>whnf
  intro bb hbb;have h1':=h1.other hbb (.tip 3 1 1);conv=>whnf
  refine⟨⟨fun hl=>?_,?_⟩,fun S4 c1 c2 b' c3=>?_⟩
  ·have:0<i:=by
    rcases Nat.eq_zero_or_pos i with h0 | h0
    ·subst h0;exact absurd rfl hl
    ·exact h0
   rw[rowsI_len,hlen];exact h1'.tip this
  ·show((rowsI ((xs.take i).map f)).length+1)*8≤_
   rw[rowsI_len,hlen];omega
  have h5:=h1'.push (m:=i+1) (by rw[rowsI_len,hlen]) c1 c2 c3 rfl
  rw[rowsI_len,hlen];have w1:IntKind.i64.wrap ((i:Int)+1)=((i+1:Nat):Int):=wrap_nat (by omega)
  conv=>whnf
  refine⟨(i+1,b'),⟨rfl,congrArg (AV.sl (.acc b') 1) (show rowsI ((xs.take i).map f)++[[AV.int .i64 y]]=rowsI ((xs.take (i+1)).map f) by rw[hsn];exact rowsI_add1 _ _),⟨rfl,rfl⟩,rfl,congrArg _ w1,trivial⟩,⟨_,St.leW_refl _,h5,by show i+1≤_;omega⟩,by show xs.length-(i+1)<xs.length-i;omega⟩
 ·have hlt:i=xs.length:=by have:=of_decide_eq_false hlt;omega
  subst hlt;have h0:0<xs.length:=List.length_pos_iff.2 hne;have hle:St.le (S.upd ba (.tip 3 1 (xs.map f).length)) S1:=fun x o hx=>by
   by_cases hxb:x=ba
   ·subst hxb;rw[St.upd_same] at hx;rw[h1.tip h0,← hx,List.length_map]
   ·rw[St.upd_ne _ _ _ _ hxb] at hx;exact h1.le x o hx
  conv=>whnf
  rw[List.take_length];exact⟨_,_,⟨ba,h1.new h0,rfl,rfl⟩,hle,AV.leS_refl _ _ _⟩
theorem RelL_ints_junk{w:World}{rd}:∀ {l:List Int} {junk:List AV} {vs:List Value},RelL w rd (l.map (AV.int .i64)++junk) vs→∃ rest,vs=l.map (Value.int .i64)++rest∧RelL w rd junk rest
 | [],junk,vs,h=>⟨vs,rfl,h⟩
 | x::l,junk,vs,h=>by
   simp only[List.map_cons,List.cons_append,RelL] at h;obtain⟨u,us,rfl,h1,h2⟩:=h;simp only[Rel] at h1;obtain⟨rest,rfl,h3⟩:=RelL_ints_junk h2;exact⟨rest,by rw[h1];rfl,h3⟩
theorem holds_row{w:World}{b:Nat}{e:TypeId}{cs:Array Value}{l:List Int}{rest:List Value}(hb:w.heap[b]? = some (.cells cs e (0,0)))(hcs:cs.toList=l.map (Value.int .i64)++rest):Go.Sort.Holds (Value.int .i64) w b 0 l.toArray:=by
 intro j hj;have hj:j<l.length:=by simpa using hj
 refine⟨?_,by simp[World.frozen?,hb]⟩
 rw[Nat.zero_add,cell_of_row w b j cs e (0,0) hb,← Array.getElem?_toList,hcs,List.getElem?_append_left (by simpa using hj)]
 simp[hj]
theorem put_row{cs:Array Value}{l m:List Int}{rest:List Value}(hcs:cs.toList=l.map (Value.int .i64)++rest)(hm:m.length=l.length):(Go.Sort.putCells (Value.int .i64) 0 m.toArray cs).toList=m.map (Value.int .i64)++rest:=by
 have hs:cs.size=l.length+rest.length:=by rw[← Array.length_toList,hcs];simp
 apply List.ext_getElem?
 intro j;rw[Array.getElem?_toList];simp only[Go.Sort.putCells,Array.getElem?_mapIdx]
 by_cases hj:j<m.length
 ·rw[List.getElem?_append_left (by simpa using hj),Array.getElem?_eq_getElem (by omega)]
  simp[hj]
 ·rw[List.getElem?_append_right (by simp;omega),← Array.getElem?_toList,hcs,List.getElem?_append_right (by simp;omega)]
  simp only[List.length_map,hm]
  cases rest[j-l.length]? with
  | none=>rfl
  | some v=>simp;omega
theorem good_put{w:World}{S:St}{b:Nat}{e:TypeId}{l m:List Int}{junk:List AV}(hg:Good (C G) w S)(hS:S b=some (.obj e (l.map (AV.int .i64)++junk)))(hm:m.length=l.length)(n:Nat)(os:Array Obj) :
 Good (C G) (Go.Sort.grow (Go.Sort.putRow (Value.int .i64) (Go.Sort.ahead w n) b 0 m.toArray) os) (S.upd b (.obj e (m.map (AV.int .i64)++junk)))∧
  Adv w S (Go.Sort.grow (Go.Sort.putRow (Value.int .i64) (Go.Sort.ahead w n) b 0 m.toArray) os) (S.upd b (.obj e (m.map (AV.int .i64)++junk))):=by
 obtain⟨cs,k1,k2,k3,k4⟩:=obj_cells hg.1 hS;obtain⟨rest,hcs,hj⟩:=RelL_ints_junk k2;have hput:=put_row hcs hm;have hsz:(Go.Sort.putCells (Value.int .i64) 0 m.toArray cs).size=cs.size:=by simp[Go.Sort.putCells]
 have h:=good_row (w':=Go.Sort.putRow (Value.int .i64) (Go.Sort.ahead w n) b 0 m.toArray) (cells':=m.map (AV.int .i64)++junk) (cs:=Go.Sort.putCells (Value.int .i64) 0 m.toArray cs) hg hS k1 rfl rfl rfl (by simp) (fun x hx=>by
  simp only[Go.Sort.putRow,Go.Sort.mapBlock,Go.Sort.heap_ahead,Array.getElem?_modify];rw[if_neg (Ne.symm hx)]) (by
  simp only[Go.Sort.putRow,Go.Sort.mapBlock,Go.Sort.heap_ahead,Array.getElem?_modify,if_true,k1,Option.map_some,Go.Sort.onCells]) hsz (by
  rw[hput];exact RelL.append (RelL_int' _ _ m) hj) (fun v hv=>by
  rw[hput,List.mem_append] at hv
  rcases hv with hv | hv
  ·obtain⟨x,_,rfl⟩:=List.mem_map.1 hv;rfl
  ·exact k3 v (by rw[hcs];exact List.mem_append_right _ hv))
 have hbel:Below (Go.Sort.putRow (Value.int .i64) (Go.Sort.ahead w n) b 0 m.toArray).heap.size (Go.Sort.putRow (Value.int .i64) (Go.Sort.ahead w n) b 0 m.toArray) (Go.Sort.grow (Go.Sort.putRow (Value.int .i64) (Go.Sort.ahead w n) b 0 m.toArray) os):=
  ⟨rfl,rfl,rfl,by simp[Go.Sort.grow],fun k hk=>by simp only[Go.Sort.grow];rw[Array.getElem?_append_left hk]⟩
 exact⟨h.1.of_below hbel,h.2.trans (Adv.of_below h.1.1 hbel)⟩
theorem sort_ok{S:St}{b cap:Nat}{e:TypeId}{l:List Int}{junk:List AV}(hS:S b=some (.obj e (l.map (AV.int .i64)++junk)))(hl:l.length≤1000000) :
 Triple P (C G) 108 [.arr b 0 l.length cap] S fun o S'=>o=.ret (.tu [])∧S'=S.upd b (.obj e ((l.mergeSort fun x y=>decide (x≤y)).map (AV.int .i64)++junk)):=by
 refine Triple.of_callsW Tryz.func108 rfl (by decide +kernel) (fun w vs hg hr=>?_)
 simp only[RelL,Rel] at hr;obtain⟨u,us,e1,rfl,rfl⟩:=hr;have hvs:vs=#[.slice (some ⟨b,0,none⟩) l.length cap]:=arr_of_list e1;subst hvs;obtain⟨cs,k1,k2,k3,k4⟩:=obj_cells hg.1 hS;obtain⟨rest,hcs,hj⟩:=RelL_ints_junk k2;refine(Tryz.slices_Sort_int b 0 cap l w (holds_row k1 hcs) (hg.1.lt hS) (by omega)).mono fun en w' ⟨h1,n,os,h2⟩=>?_
 subst h2;obtain⟨g1,g2⟩:=good_put (m:=l.mergeSort fun x y=>decide (x≤y)) hg hS (by simp) n os
 exact⟨_,.tu [],_,h1,by simp[Rel,RelL],g1,g2,rfl,rfl⟩
theorem compact_ok{S:St}{b cap:Nat}{e:TypeId}{l:List Int}{junk:List AV}(hS:S b=some (.obj e (l.map (AV.int .i64)++junk)))(hl:l.length≤1000000)(hc:l.length≤cap) :
 Triple P (C G) 109 [.arr b 0 l.length cap] S fun o S'=>o=.ret (.arr b 0 (Lib.compact l).length cap)∧S'=S.upd b (.obj e ((Lib.compact l++List.replicate (l.length-(Lib.compact l).length) 0).map (AV.int .i64)++junk)):=by
 refine Triple.of_callsW Tryz.func109 rfl (by decide +kernel) (fun w vs hg hr=>?_)
 simp only[RelL,Rel] at hr;obtain⟨u,us,e1,rfl,rfl⟩:=hr;have hvs:vs=#[.slice (some ⟨b,0,none⟩) l.length cap]:=arr_of_list e1;subst hvs;obtain⟨cs,k1,k2,k3,k4⟩:=obj_cells hg.1 hS;obtain⟨rest,hcs,hj⟩:=RelL_ints_junk k2;refine(Tryz.slices_Compact_int b 0 cap l w (holds_row k1 hcs) (by omega) hc).mono fun en w' ⟨h1,n,h2⟩=>?_
 subst h2;have hle:(Lib.compact l).length≤l.length:=Lib.compact_length_le l;obtain⟨g1,g2⟩:=good_put (m:=Lib.compact l++List.replicate (l.length-(Lib.compact l).length) 0) hg hS (by simp;omega) n #[]
 rw[Go.Sort.grow_empty] at g1 g2;exact⟨_,.arr b 0 (Lib.compact l).length cap,_,h1,by simp only[Rel],g1,g2,rfl,rfl⟩
section
variable {P:Program} {C:Cx} {ops:List Oper} {K:Env→St→Prop} {Qp:AV→St→Prop}
theorem aOps_append(l2:List Oper):∀ (l1:List Oper) (env:Env) (S:St),aOps P C ops (l1++l2) env S K Qp=aOps P C ops l1 env S (fun e s=>aOps P C ops l2 e s K Qp) Qp
 | [],env,S=>rfl
 | o::r,env,S=>by simp only[List.cons_append,aOps,aOps_append l2 r]
theorem aOps_cut(n:Nat){l:List Oper}{env:Env}{S:St}(h:∀ K',(∀ env' S',aOps P C ops (l.drop n) env' S' K Qp→K' env' S')→aOps P C ops (l.take n) env S K' Qp):aOps P C ops l env S K Qp:=by
 rw[← List.take_append_drop n l,aOps_append];exact h _ (fun _ _ h=>h)
theorem awp_region{id:Nat}{os:Array Oper}{env:Env}{S:St}{Q:AExit→Env→St→Prop}(h:aOps P C os.toList os.toList env S (fun e s=>Q .normal e s) (fun x s=>Q (.panic x) [] s)):awp P C (.region id os false) env S Q:=by
 unfold awp;exact h
end
def rowK:List AV:=[.int .i64 3,.int .i64 0,.sl .any 2 [],.int .i64 0,.int .i64 0,.int .i64 0,.int .i64 0,.sl .any 1 [[.int .i64 0],[.int .i64 1]],.sl .any 1 [],.sl .any 1 []]
def needK:List AV:=[.bool false,.bool true,.bool false,.bool false,.bool false,.bool false,.bool false,.bool false,.bool false,.fn (.func 74) [] []]
theorem fieldK_ok(S:St):Triple P (C G) 66 [.ag rowK,.ag needK] S fun o S'=>o=.ret (.bool false)∧S'=S:=by
 unfold rowK needK;refine triple_of_awp (hT G) hm Tryz.func66 rfl (by decide +kernel) rfl (by decide +kernel) (by show 2≤_;decide +kernel) rfl ?_
 refine awp_seq2 fun K hK hQ=>?_
 conv=>whnf
 intro b2 hb2;conv=>whnf
 intro b3 hb3;conv=>whnf
 refine hK _ _ ?_;clear hK hQ K;have q3:=St.upd_same (S.upd b2 (.obj 51 rowK)) b3 (.obj 111 needK);have q2:((S.upd b2 (.obj 51 rowK)).upd b3 (.obj 111 needK)) b2=some (.obj 51 rowK):=St.up (p:=.obj 111 needK) hb3 (St.upd_same S b2 (.obj 51 rowK));have hle:St.le S ((S.upd b2 (.obj 51 rowK)).upd b3 (.obj 111 needK)):=St.le_upd' (St.le_upd' (St.le_refl S) hb2 (.obj 51 rowK)) hb3 (.obj 111 needK);change awp _ _ _ _ ((S.upd b2 (.obj 51 rowK)).upd b3 (.obj 111 needK)) _;generalize (S.upd b2 (.obj 51 rowK)).upd b3 (.obj 111 needK)=T at *;unfold rowK at q2;unfold needK at q3;refine awp_seq2 fun K hK hQ=>?_
 conv=>whnf
 refine⟨_,_,q2,?_⟩;conv=>whnf
 refine⟨_,_,q2,?_⟩;conv=>whnf
 refine⟨_,_,q2,?_⟩;conv=>whnf
 refine⟨_,_,q2,?_⟩;conv=>whnf
 refine⟨_,_,q2,?_⟩;conv=>whnf
 intro b5 hb5;conv=>whnf
 refine⟨_,_,St.upd_same _ _ _,?_⟩;conv=>whnf
 rw[St.upd_upd];refine hK _ _ ?_;clear hK hQ K;have r5:=St.upd_same T b5 (.obj 166 [.int .i64 0,.int .i64 0,.int .i64 0,.int .i64 0,.int .i64 0]);have r3:=St.up (p:=.obj 166 [.int .i64 0,.int .i64 0,.int .i64 0,.int .i64 0,.int .i64 0]) hb5 q3;have r2:=St.up (p:=.obj 166 [.int .i64 0,.int .i64 0,.int .i64 0,.int .i64 0,.int .i64 0]) hb5 q2;have hle5:=St.le_upd' hle hb5 (.obj 166 [.int .i64 0,.int .i64 0,.int .i64 0,.int .i64 0,.int .i64 0]);generalize T.upd b5 (.obj 166 [.int .i64 0,.int .i64 0,.int .i64 0,.int .i64 0,.int .i64 0])=U at *;clear q2 q3 hle hb5 T;refine awp_seq2 fun K hK hQ=>?_
 conv=>whnf
 refine⟨_,_,r3,?_⟩;conv=>whnf
 refine hK _ _ ?_;clear hK hQ K;refine awp_seq2 fun K hK hQ=>?_
 conv=>whnf
 refine⟨_,_,r3,?_⟩;conv=>whnf
 refine hK _ _ ?_;clear hK hQ K;refine awp_seq2 fun K hK hQ=>?_
 conv=>whnf
 refine⟨_,_,r3,?_⟩;conv=>whnf
 refine hK _ _ ?_;clear hK hQ K;refine awp_seq2 fun K hK hQ=>?_
 conv=>whnf
 refine⟨_,_,r3,?_⟩;conv=>whnf
 refine hK _ _ ?_;clear hK hQ K;refine awp_seq2 fun K hK hQ=>?_
 conv=>whnf
 refine⟨_,_,r3,?_⟩;conv=>whnf
 refine hK _ _ ?_;clear hK hQ K;refine awp_seq2 fun K hK hQ=>?_
 refine awp_region ?_;refine aOps_cut 14 fun K' hK'=>?_
 conv=>whnf
 refine⟨_,_,r5,?_⟩;conv=>whnf
 refine⟨_,_,r3,?_⟩;conv=>whnf
 refine⟨_,_,r2,?_⟩;conv=>whnf
 intro _;conv=>whnf
 refine hK' _ _ ?_;clear hK' K';refine aOps_cut 11 fun K' hK'=>?_
 conv=>whnf
 refine⟨_,_,r3,?_⟩;conv=>whnf
 refine hK' _ _ ?_;clear hK' K';refine aOps_cut 11 fun K' hK'=>?_
 conv=>whnf
 refine⟨_,_,r3,?_⟩;conv=>whnf
 refine⟨_,_,r2,?_⟩;conv=>whnf
 intro _;conv=>whnf
 refine hK' _ _ ?_;clear hK' K';conv=>whnf
 refine⟨_,_,r3,?_⟩;conv=>whnf
 refine⟨_,_,r2,?_⟩;conv=>whnf
 intro _;conv=>whnf
 refine hK _ _ ?_;clear hK hQ K;conv=>whnf
 exact⟨_,_,⟨rfl,rfl⟩,hle5,AV.leS_refl _ _ _⟩
def kindsL:List (AV×AV):=[(.int .i64 1,.ag [.bool true,.bool false,.bool false,.bool false,.bool false,.bool false,.bool true,.bool true,.bool false,.fn (.func 72) [] []]),(.int .i64 2,.ag [.bool false,.bool false,.bool false,.bool false,.bool true,.bool true,.bool true,.bool false,.bool false,.fn (.func 73) [] []]),(.int .i64 3,.ag [.bool false,.bool true,.bool false,.bool false,.bool false,.bool false,.bool false,.bool false,.bool false,.fn (.func 74) [] []]),(.int .i64 4,.ag [.bool false,.bool false,.bool true,.bool false,.bool true,.bool true,.bool false,.bool false,.bool false,.fn (.func 75) [] []]),(.int .i64 5,.ag [.bool false,.bool true,.bool false,.bool false,.bool false,.bool true,.bool false,.bool false,.bool false,.fn (.func 76) [] []]),(.int .i64 6,.ag [.bool false,.bool true,.bool false,.bool false,.bool false,.bool true,.bool false,.bool false,.bool false,.fn (.func 79) [] []]),(.int .i64 7,.ag [.bool true,.bool false,.bool false,.bool false,.bool true,.bool false,.bool true,.bool false,.bool false,.fn (.func 81) [] []]),(.int .i64 8,.ag [.bool false,.bool true,.bool false,.bool true,.bool false,.bool false,.bool false,.bool false,.bool false,.fn (.func 82) [] []]),(.int .i64 9,.ag [.bool false,.bool true,.bool false,.bool false,.bool false,.bool false,.bool true,.bool true,.bool true,.fn (.func 83) [] []])]
theorem kinds_ok(S:St):Triple P (C G) 54 [] S fun o S'=>∃ r,S r=none∧o=.ret (.mp r)∧S'=S.upd r (.mapo kindsL):=by
 refine triple_of_awp (hT G) hm Tryz.func54 rfl (by decide +kernel) rfl (by decide +kernel) (by show 0≤_;decide +kernel) rfl ?_
 refine awp_seq2 fun K hK hQ=>?_
 conv=>whnf
 refine hK _ _ ?_;clear hK hQ K;refine awp_seq2 fun K hK hQ=>?_
 refine awp_region ?_;refine aOps_cut 3 fun K' hK'=>?_
 conv=>whnf
 intro r hr;conv=>whnf
 refine⟨_,St.upd_same _ _ _,?_⟩;conv=>whnf
 rw[St.upd_upd];refine hK' _ _ ?_;clear hK' K';refine aOps_cut 2 fun K' hK'=>?_
 conv=>whnf
 refine⟨_,St.upd_same _ _ _,?_⟩;conv=>whnf
 rw[St.upd_upd];refine hK' _ _ ?_;clear hK' K';refine aOps_cut 2 fun K' hK'=>?_
 conv=>whnf
 refine⟨_,St.upd_same _ _ _,?_⟩;conv=>whnf
 rw[St.upd_upd];refine hK' _ _ ?_;clear hK' K';refine aOps_cut 2 fun K' hK'=>?_
 conv=>whnf
 refine⟨_,St.upd_same _ _ _,?_⟩;conv=>whnf
 rw[St.upd_upd];refine hK' _ _ ?_;clear hK' K';refine aOps_cut 2 fun K' hK'=>?_
 conv=>whnf
 refine⟨_,St.upd_same _ _ _,?_⟩;conv=>whnf
 rw[St.upd_upd];refine hK' _ _ ?_;clear hK' K';refine aOps_cut 2 fun K' hK'=>?_
 conv=>whnf
 refine⟨_,St.upd_same _ _ _,?_⟩;conv=>whnf
 rw[St.upd_upd];refine hK' _ _ ?_;clear hK' K';refine aOps_cut 2 fun K' hK'=>?_
 conv=>whnf
 refine⟨_,St.upd_same _ _ _,?_⟩;conv=>whnf
 rw[St.upd_upd];refine hK' _ _ ?_;clear hK' K';refine aOps_cut 2 fun K' hK'=>?_
 conv=>whnf
 refine⟨_,St.upd_same _ _ _,?_⟩;conv=>whnf
 rw[St.upd_upd];refine hK' _ _ ?_;clear hK' K';refine aOps_cut 2 fun K' hK'=>?_
 conv=>whnf
 refine⟨_,St.upd_same _ _ _,?_⟩;conv=>whnf
 rw[St.upd_upd];refine hK' _ _ ?_;clear hK' K';conv=>whnf
 refine hK _ _ ?_;clear hK hQ K;conv=>whnf
 exact⟨_,_,⟨r,hr,rfl,rfl⟩,St.le_refl _,AV.leS_refl _ _ _⟩
theorem wideK_ok(S:St):Triple P (C G) 68 [.ag rowK,.ag needK] S fun o S'=>o=.ret (.bool false)∧S'=S:=by
 unfold rowK needK;refine triple_of_awp (hT G) hm Tryz.func68 rfl (by decide +kernel) rfl (by decide +kernel) (by show 2≤_;decide +kernel) rfl ?_
 conv=>whnf
 intro b2 hb2;conv=>whnf
 intro b3 hb3;conv=>whnf
 refine⟨_,_,St.upd_same _ _ _,?_⟩;conv=>whnf
 exact⟨_,_,⟨rfl,rfl⟩,St.le_upd' (St.le_upd' (St.le_refl _) hb2 _) hb3 _,AV.leS_refl _ _ _⟩
theorem con1_ok(x:Int){S:St}{b:Nat}{n:Int}(h:S b=some (.obj 3 [.int .i64 n])):Triple P (C G) 65 [.int .i64 x,.ref b 0] S fun o S'=>o=.ret (.bool (decide (x<0) || decide (x ≥ n)))∧S'=S:=by
 refine triple_of_awp (hT G) hm Tryz.func65 rfl (by decide +kernel) rfl (by decide +kernel) (by show 2≤_;decide +kernel) rfl ?_
 conv=>whnf
 cases hx:decide (x<0) with
 | true=>
   conv=>whnf
   exact⟨_,_,⟨rfl,rfl⟩,St.le_refl _,AV.leS_refl _ _ _⟩
 | false=>
   conv=>whnf
   refine⟨_,_,h,?_⟩;conv=>whnf
   exact⟨_,_,⟨rfl,rfl⟩,St.le_refl _,AV.leS_refl _ _ _⟩
theorem conK_ok(S:St):Triple P (C G) 53 [.ag rowK,.int .i64 2] S fun o S'=>o=.ret (.int .i64 0)∧S'=S:=by
 have hte:=fun S=>terms_ok (G:=G) [] (by decide) 2 S
 have hco:=fun b n S=>counts_ok (G:=G) b n S
 have hwi:=fun n S=>within_ok (G:=G) n 1000000000 (by decide) (by decide) S
 unfold rowK;refine triple_of_awp (hT G) hm Tryz.func53 rfl (by decide +kernel) rfl (by decide +kernel) (by show 2≤_;decide +kernel) rfl ?_
 refine awp_seq2 fun K hK hQ=>?_
 conv=>whnf
 intro b2 hb2;conv=>whnf
 intro b3 hb3;conv=>whnf
 refine hK _ _ ?_;clear hK hQ K;have q3:((S.upd b2 (.obj 51 rowK)).upd b3 (.obj 3 [.int .i64 2])) b3=_:=St.upd_same _ _ _;have q2:((S.upd b2 (.obj 51 rowK)).upd b3 (.obj 3 [.int .i64 2])) b2=some (.obj 51 rowK):=St.up hb3 (St.upd_same _ _ _);have hle:St.le S ((S.upd b2 (.obj 51 rowK)).upd b3 (.obj 3 [.int .i64 2])):=St.le_upd' (St.le_upd' (St.le_refl S) hb2 _) hb3 _;change awp _ _ _ _ ((S.upd b2 (.obj 51 rowK)).upd b3 (.obj 3 [.int .i64 2])) _;generalize (S.upd b2 (.obj 51 rowK)).upd b3 (.obj 3 [.int .i64 2])=T at *;unfold rowK at q2;refine awp_seq2 fun K hK hQ=>?_
 refine⟨[],(.free 1 (.one 0 (.free 2 (.one 3 (.free 4 (.free 5 (.free 6 (.one 7 (.one 8 (.free 9 .done) .none) .none)))) (.one 7 (.one 3 (.free 4 (.free 5 (.free 6 (.one 8 (.free 9 .done) .none)))) .none) .none))) (.one 2 (.one 0 (.one 3 (.free 4 (.free 5 (.free 6 (.one 7 (.one 8 (.free 9 .done) .none) .none)))) (.one 7 (.one 3 (.free 4 (.free 5 (.free 6 (.one 8 (.free 9 .done) .none)))) .none) .none)) (.one 7 (.one 0 (.one 3 (.free 4 (.free 5 (.free 6 (.one 8 (.free 9 .done) .none)))) .none) .none) .none)) (.one 7 (.one 0 (.free 2 (.one 3 (.free 4 (.free 5 (.free 6 (.one 8 (.free 9 .done) .none)))) .none)) (.one 2 (.one 0 (.one 3 (.free 4 (.free 5 (.free 6 (.one 8 (.free 9 .done) .none)))) .none) .none) .none)) .none)))),_,by decide +kernel,?_,fun _ _ h=>⟨_,.inl rfl,h⟩⟩
 refine⟨?_,?_⟩
 ·conv=>whnf
  refine(kinds_ok _).mono ?_;rintro o T' ⟨r,hr,rfl,rfl⟩;conv=>whnf
  refine⟨_,_,St.up hr q2,?_⟩;conv=>whnf
  refine⟨?_,?_⟩
  ·conv=>whnf
   refine⟨_,St.upd_same _ _ _,?_⟩;conv=>whnf
   intro b5 hb5;conv=>whnf
   have zb5:=St.le_none hle (St.no hb5)
   have n25:b2≠b5:=fun e=>by have:=St.no hb5;rw[← e,q2] at this;cases this
   have n35:b3≠b5:=fun e=>by have:=St.no hb5;rw[← e,q3] at this;cases this
   -- St.up (p:=(.obj 111 [.bool false,.bool false,.bool false,.bool false,.bool false,.bool false,.bool false,.bool false,.bool false,.nilf])) hb5 (St.up (p:=(.mapo kindsL)) hr q2) b2,St.up (p:=(.obj 111 [.bool false,.bool false,.bool false,.bool false,.bool false,.bool false,.bool false,.bool false,.bool false,.nilf])) hb5 (St.up (p:=(.mapo kindsL)) hr q3) b3,St.le_upd' (St.le_upd' hle hr (.mapo kindsL)) hb5 (.obj 111 [.bool false,.bool false,.bool false,.bool false,.bool false,.bool false,.bool false,.bool false,.bool false,.nilf]) le,St.upd_same _ _ _ b5
   refine⟨_,_,St.upd_same _ _ _,?_⟩;conv=>whnf
   have p2:=(St.upd_ne _ b5 (.obj 111 needK) b2 n25).trans (St.up (p:=(.obj 111 [.bool false,.bool false,.bool false,.bool false,.bool false,.bool false,.bool false,.bool false,.bool false,.nilf])) hb5 (St.up (p:=(.mapo kindsL)) hr q2))
   have p3:=(St.upd_ne _ b5 (.obj 111 needK) b3 n35).trans (St.up (p:=(.obj 111 [.bool false,.bool false,.bool false,.bool false,.bool false,.bool false,.bool false,.bool false,.bool false,.nilf])) hb5 (St.up (p:=(.mapo kindsL)) hr q3))
   have hlf:=St.le_upd (St.le_upd' (St.le_upd' hle hr (.mapo kindsL)) hb5 (.obj 111 [.bool false,.bool false,.bool false,.bool false,.bool false,.bool false,.bool false,.bool false,.bool false,.nilf])) zb5 (.obj 111 needK)
   unfold needK at p2 p3 hlf;have p5:=St.upd_same ((T.upd r (.mapo kindsL)).upd b5 (.obj 111 [.bool false,.bool false,.bool false,.bool false,.bool false,.bool false,.bool false,.bool false,.bool false,.nilf])) b5 (.obj 111 [.bool false,.bool true,.bool false,.bool false,.bool false,.bool false,.bool false,.bool false,.bool false,.fn (.func 74) [] []]);refine hK _ _ ?_;clear hK hQ K;refine awp_seq2 fun K hK hQ=>?_
   conv=>whnf
   refine⟨_,_,p5,?_⟩;conv=>whnf
   refine hK _ _ ?_;clear hK hQ K;refine awp_seq2 fun K hK hQ=>?_
   conv=>whnf
   refine⟨_,_,p2,?_⟩;conv=>whnf
   refine⟨_,_,p3,?_⟩;conv=>whnf
   refine(hte _).mono ?_;rintro o T' ⟨rfl,rfl⟩;conv=>whnf
   refine hK _ _ ?_;clear hK hQ K;refine awp_seq2 fun K hK hQ=>?_
   conv=>whnf
   refine hK _ _ ?_;clear hK hQ K;refine awp_seq2 fun K hK hQ=>?_
   conv=>whnf
   refine⟨_,_,p2,?_⟩;conv=>whnf
   refine⟨_,_,p5,?_⟩;conv=>whnf
   refine(fieldK_ok _).mono ?_;rintro o T' ⟨rfl,rfl⟩;conv=>whnf
   refine⟨_,_,p5,?_⟩;conv=>whnf
   refine⟨_,_,p2,?_⟩;conv=>whnf
   intro _;conv=>whnf
   refine(hco _ _ _).mono ?_;rintro o T' ⟨rfl,rfl⟩;conv=>whnf
   refine⟨_,_,p5,?_⟩;conv=>whnf
   refine⟨_,_,p2,?_⟩;conv=>whnf
   intro _;conv=>whnf
   refine(hco _ _ _).mono ?_;rintro o T' ⟨rfl,rfl⟩;conv=>whnf
   refine⟨_,_,p5,?_⟩;conv=>whnf
   refine⟨_,_,p2,?_⟩;conv=>whnf
   intro _;conv=>whnf
   refine(hco _ _ _).mono ?_;rintro o T' ⟨rfl,rfl⟩;conv=>whnf
   refine⟨_,_,p2,?_⟩;conv=>whnf
   refine⟨_,_,p5,?_⟩;conv=>whnf
   refine(wideK_ok _).mono ?_;rintro o T' ⟨rfl,rfl⟩;conv=>whnf
   refine⟨_,_,p5,?_⟩;conv=>whnf
   refine⟨_,_,p5,?_⟩;conv=>whnf
   refine⟨_,_,p2,?_⟩;conv=>whnf
   refine(ContainsI_ok (G:=G) (xs:=[0,1]) (by decide) (p:=fun x=>decide (x<0) || decide (x ≥ 2)) fun x _=>con1_ok x p3).mono ?_
   rintro o T' ⟨rfl,rfl⟩;conv=>whnf
   refine⟨_,_,p2,?_⟩;conv=>whnf
   refine(hwi _ _).mono ?_;rintro o T' ⟨rfl,rfl⟩;conv=>whnf
   refine⟨_,_,p2,?_⟩;conv=>whnf
   refine(hwi _ _).mono ?_;rintro o T' ⟨rfl,rfl⟩;conv=>whnf
   refine⟨_,_,p2,?_⟩;conv=>whnf
   refine(great_ok (G:=G) [] (by decide) _).mono ?_
   rintro o T' ⟨rfl,rfl⟩;conv=>whnf
   refine⟨_,_,p2,?_⟩;conv=>whnf
   refine(ContainsL_ok (G:=G) (xs:=[]) (by decide) (p:=fun _=>false) fun x hx=>(by cases hx)).mono ?_
   rintro o T' ⟨rfl,rfl⟩;conv=>whnf
   refine hK _ _ ?_;clear hK hQ K;conv=>whnf
   exact⟨_,_,⟨rfl,rfl⟩,hlf,AV.leS_refl _ _ _⟩
  ·conv=>whnf
   intro b5 hb5;conv=>whnf
   refine⟨_,St.up hb5 (St.upd_same _ _ _),?_⟩;conv=>whnf
   have zb5:=St.le_none hle (St.no hb5)
   have n25:b2≠b5:=fun e=>by have:=St.no hb5;rw[← e,q2] at this;cases this
   have n35:b3≠b5:=fun e=>by have:=St.no hb5;rw[← e,q3] at this;cases this
   -- St.up (p:=(.obj 111 [.bool false,.bool false,.bool false,.bool false,.bool false,.bool false,.bool false,.bool false,.bool false,.nilf])) hb5 (St.up (p:=(.mapo kindsL)) hr q2) b2,St.up (p:=(.obj 111 [.bool false,.bool false,.bool false,.bool false,.bool false,.bool false,.bool false,.bool false,.bool false,.nilf])) hb5 (St.up (p:=(.mapo kindsL)) hr q3) b3,St.le_upd' (St.le_upd' hle hr (.mapo kindsL)) hb5 (.obj 111 [.bool false,.bool false,.bool false,.bool false,.bool false,.bool false,.bool false,.bool false,.bool false,.nilf]) le,St.upd_same _ _ _ b5
   refine⟨_,_,St.upd_same _ _ _,?_⟩;conv=>whnf
   have p2:=(St.upd_ne _ b5 (.obj 111 needK) b2 n25).trans (St.up (p:=(.obj 111 [.bool false,.bool false,.bool false,.bool false,.bool false,.bool false,.bool false,.bool false,.bool false,.nilf])) hb5 (St.up (p:=(.mapo kindsL)) hr q2))
   have p3:=(St.upd_ne _ b5 (.obj 111 needK) b3 n35).trans (St.up (p:=(.obj 111 [.bool false,.bool false,.bool false,.bool false,.bool false,.bool false,.bool false,.bool false,.bool false,.nilf])) hb5 (St.up (p:=(.mapo kindsL)) hr q3))
   have hlf:=St.le_upd (St.le_upd' (St.le_upd' hle hr (.mapo kindsL)) hb5 (.obj 111 [.bool false,.bool false,.bool false,.bool false,.bool false,.bool false,.bool false,.bool false,.bool false,.nilf])) zb5 (.obj 111 needK)
   unfold needK at p2 p3 hlf;have p5:=St.upd_same ((T.upd r (.mapo kindsL)).upd b5 (.obj 111 [.bool false,.bool false,.bool false,.bool false,.bool false,.bool false,.bool false,.bool false,.bool false,.nilf])) b5 (.obj 111 [.bool false,.bool true,.bool false,.bool false,.bool false,.bool false,.bool false,.bool false,.bool false,.fn (.func 74) [] []]);refine hK _ _ ?_;clear hK hQ K;refine awp_seq2 fun K hK hQ=>?_
   conv=>whnf
   refine⟨_,_,p5,?_⟩;conv=>whnf
   refine hK _ _ ?_;clear hK hQ K;refine awp_seq2 fun K hK hQ=>?_
   conv=>whnf
   refine⟨_,_,p2,?_⟩;conv=>whnf
   refine⟨_,_,p3,?_⟩;conv=>whnf
   refine(hte _).mono ?_;rintro o T' ⟨rfl,rfl⟩;conv=>whnf
   refine hK _ _ ?_;clear hK hQ K;refine awp_seq2 fun K hK hQ=>?_
   conv=>whnf
   refine hK _ _ ?_;clear hK hQ K;refine awp_seq2 fun K hK hQ=>?_
   conv=>whnf
   refine⟨_,_,p2,?_⟩;conv=>whnf
   refine⟨_,_,p5,?_⟩;conv=>whnf
   refine(fieldK_ok _).mono ?_;rintro o T' ⟨rfl,rfl⟩;conv=>whnf
   refine⟨_,_,p5,?_⟩;conv=>whnf
   refine⟨_,_,p2,?_⟩;conv=>whnf
   intro _;conv=>whnf
   refine(hco _ _ _).mono ?_;rintro o T' ⟨rfl,rfl⟩;conv=>whnf
   refine⟨_,_,p5,?_⟩;conv=>whnf
   refine⟨_,_,p2,?_⟩;conv=>whnf
   intro _;conv=>whnf
   refine(hco _ _ _).mono ?_;rintro o T' ⟨rfl,rfl⟩;conv=>whnf
   refine⟨_,_,p5,?_⟩;conv=>whnf
   refine⟨_,_,p2,?_⟩;conv=>whnf
   intro _;conv=>whnf
   refine(hco _ _ _).mono ?_;rintro o T' ⟨rfl,rfl⟩;conv=>whnf
   refine⟨_,_,p2,?_⟩;conv=>whnf
   refine⟨_,_,p5,?_⟩;conv=>whnf
   refine(wideK_ok _).mono ?_;rintro o T' ⟨rfl,rfl⟩;conv=>whnf
   refine⟨_,_,p5,?_⟩;conv=>whnf
   refine⟨_,_,p5,?_⟩;conv=>whnf
   refine⟨_,_,p2,?_⟩;conv=>whnf
   refine(ContainsI_ok (G:=G) (xs:=[0,1]) (by decide) (p:=fun x=>decide (x<0) || decide (x ≥ 2)) fun x _=>con1_ok x p3).mono ?_
   rintro o T' ⟨rfl,rfl⟩;conv=>whnf
   refine⟨_,_,p2,?_⟩;conv=>whnf
   refine(hwi _ _).mono ?_;rintro o T' ⟨rfl,rfl⟩;conv=>whnf
   refine⟨_,_,p2,?_⟩;conv=>whnf
   refine(hwi _ _).mono ?_;rintro o T' ⟨rfl,rfl⟩;conv=>whnf
   refine⟨_,_,p2,?_⟩;conv=>whnf
   refine(great_ok (G:=G) [] (by decide) _).mono ?_
   rintro o T' ⟨rfl,rfl⟩;conv=>whnf
   refine⟨_,_,p2,?_⟩;conv=>whnf
   refine(ContainsL_ok (G:=G) (xs:=[]) (by decide) (p:=fun _=>false) fun x hx=>(by cases hx)).mono ?_
   rintro o T' ⟨rfl,rfl⟩;conv=>whnf
   refine hK _ _ ?_;clear hK hQ K;conv=>whnf
   exact⟨_,_,⟨rfl,rfl⟩,hlf,AV.leS_refl _ _ _⟩
 ·refine⟨?_,?_⟩
  ·conv=>whnf
   refine⟨_,_,q2,?_⟩;conv=>whnf
   refine⟨?_,?_⟩
   ·conv=>whnf
    refine(kinds_ok _).mono ?_;rintro o T' ⟨r,hr,rfl,rfl⟩;conv=>whnf
    refine⟨?_,?_⟩
    ·conv=>whnf
     refine⟨_,St.upd_same _ _ _,?_⟩;conv=>whnf
     intro b5 hb5;conv=>whnf
     have zb5:=St.le_none hle (St.no hb5)
     have n25:b2≠b5:=fun e=>by have:=St.no hb5;rw[← e,q2] at this;cases this
     have n35:b3≠b5:=fun e=>by have:=St.no hb5;rw[← e,q3] at this;cases this
     -- St.up (p:=(.obj 111 [.bool false,.bool false,.bool false,.bool false,.bool false,.bool false,.bool false,.bool false,.bool false,.nilf])) hb5 (St.up (p:=(.mapo kindsL)) hr q2) b2,St.up (p:=(.obj 111 [.bool false,.bool false,.bool false,.bool false,.bool false,.bool false,.bool false,.bool false,.bool false,.nilf])) hb5 (St.up (p:=(.mapo kindsL)) hr q3) b3,St.le_upd' (St.le_upd' hle hr (.mapo kindsL)) hb5 (.obj 111 [.bool false,.bool false,.bool false,.bool false,.bool false,.bool false,.bool false,.bool false,.bool false,.nilf]) le,St.upd_same _ _ _ b5
     refine⟨_,_,St.upd_same _ _ _,?_⟩;conv=>whnf
     have p2:=(St.upd_ne _ b5 (.obj 111 needK) b2 n25).trans (St.up (p:=(.obj 111 [.bool false,.bool false,.bool false,.bool false,.bool false,.bool false,.bool false,.bool false,.bool false,.nilf])) hb5 (St.up (p:=(.mapo kindsL)) hr q2))
     have p3:=(St.upd_ne _ b5 (.obj 111 needK) b3 n35).trans (St.up (p:=(.obj 111 [.bool false,.bool false,.bool false,.bool false,.bool false,.bool false,.bool false,.bool false,.bool false,.nilf])) hb5 (St.up (p:=(.mapo kindsL)) hr q3))
     have hlf:=St.le_upd (St.le_upd' (St.le_upd' hle hr (.mapo kindsL)) hb5 (.obj 111 [.bool false,.bool false,.bool false,.bool false,.bool false,.bool false,.bool false,.bool false,.bool false,.nilf])) zb5 (.obj 111 needK)
     unfold needK at p2 p3 hlf;have p5:=St.upd_same ((T.upd r (.mapo kindsL)).upd b5 (.obj 111 [.bool false,.bool false,.bool false,.bool false,.bool false,.bool false,.bool false,.bool false,.bool false,.nilf])) b5 (.obj 111 [.bool false,.bool true,.bool false,.bool false,.bool false,.bool false,.bool false,.bool false,.bool false,.fn (.func 74) [] []]);refine hK _ _ ?_;clear hK hQ K;refine awp_seq2 fun K hK hQ=>?_
     conv=>whnf
     refine⟨_,_,p5,?_⟩;conv=>whnf
     refine hK _ _ ?_;clear hK hQ K;refine awp_seq2 fun K hK hQ=>?_
     conv=>whnf
     refine⟨_,_,p2,?_⟩;conv=>whnf
     refine⟨_,_,p3,?_⟩;conv=>whnf
     refine(hte _).mono ?_;rintro o T' ⟨rfl,rfl⟩;conv=>whnf
     refine hK _ _ ?_;clear hK hQ K;refine awp_seq2 fun K hK hQ=>?_
     conv=>whnf
     refine hK _ _ ?_;clear hK hQ K;refine awp_seq2 fun K hK hQ=>?_
     conv=>whnf
     refine⟨_,_,p2,?_⟩;conv=>whnf
     refine⟨_,_,p5,?_⟩;conv=>whnf
     refine(fieldK_ok _).mono ?_;rintro o T' ⟨rfl,rfl⟩;conv=>whnf
     refine⟨_,_,p5,?_⟩;conv=>whnf
     refine⟨_,_,p2,?_⟩;conv=>whnf
     intro _;conv=>whnf
     refine(hco _ _ _).mono ?_;rintro o T' ⟨rfl,rfl⟩;conv=>whnf
     refine⟨_,_,p5,?_⟩;conv=>whnf
     refine⟨_,_,p2,?_⟩;conv=>whnf
     intro _;conv=>whnf
     refine(hco _ _ _).mono ?_;rintro o T' ⟨rfl,rfl⟩;conv=>whnf
     refine⟨_,_,p5,?_⟩;conv=>whnf
     refine⟨_,_,p2,?_⟩;conv=>whnf
     intro _;conv=>whnf
     refine(hco _ _ _).mono ?_;rintro o T' ⟨rfl,rfl⟩;conv=>whnf
     refine⟨_,_,p2,?_⟩;conv=>whnf
     refine⟨_,_,p5,?_⟩;conv=>whnf
     refine(wideK_ok _).mono ?_;rintro o T' ⟨rfl,rfl⟩;conv=>whnf
     refine⟨_,_,p5,?_⟩;conv=>whnf
     refine⟨_,_,p5,?_⟩;conv=>whnf
     refine⟨_,_,p2,?_⟩;conv=>whnf
     refine(ContainsI_ok (G:=G) (xs:=[0,1]) (by decide) (p:=fun x=>decide (x<0) || decide (x ≥ 2)) fun x _=>con1_ok x p3).mono ?_
     rintro o T' ⟨rfl,rfl⟩;conv=>whnf
     refine⟨_,_,p2,?_⟩;conv=>whnf
     refine(hwi _ _).mono ?_;rintro o T' ⟨rfl,rfl⟩;conv=>whnf
     refine⟨_,_,p2,?_⟩;conv=>whnf
     refine(hwi _ _).mono ?_;rintro o T' ⟨rfl,rfl⟩;conv=>whnf
     refine⟨_,_,p2,?_⟩;conv=>whnf
     refine(great_ok (G:=G) [] (by decide) _).mono ?_
     rintro o T' ⟨rfl,rfl⟩;conv=>whnf
     refine⟨_,_,p2,?_⟩;conv=>whnf
     refine(ContainsL_ok (G:=G) (xs:=[]) (by decide) (p:=fun _=>false) fun x hx=>(by cases hx)).mono ?_
     rintro o T' ⟨rfl,rfl⟩;conv=>whnf
     refine hK _ _ ?_;clear hK hQ K;conv=>whnf
     exact⟨_,_,⟨rfl,rfl⟩,hlf,AV.leS_refl _ _ _⟩
    ·conv=>whnf
     intro b5 hb5;conv=>whnf
     refine⟨_,St.up hb5 (St.upd_same _ _ _),?_⟩;conv=>whnf
     have zb5:=St.le_none hle (St.no hb5)
     have n25:b2≠b5:=fun e=>by have:=St.no hb5;rw[← e,q2] at this;cases this
     have n35:b3≠b5:=fun e=>by have:=St.no hb5;rw[← e,q3] at this;cases this
     -- St.up (p:=(.obj 111 [.bool false,.bool false,.bool false,.bool false,.bool false,.bool false,.bool false,.bool false,.bool false,.nilf])) hb5 (St.up (p:=(.mapo kindsL)) hr q2) b2,St.up (p:=(.obj 111 [.bool false,.bool false,.bool false,.bool false,.bool false,.bool false,.bool false,.bool false,.bool false,.nilf])) hb5 (St.up (p:=(.mapo kindsL)) hr q3) b3,St.le_upd' (St.le_upd' hle hr (.mapo kindsL)) hb5 (.obj 111 [.bool false,.bool false,.bool false,.bool false,.bool false,.bool false,.bool false,.bool false,.bool false,.nilf]) le,St.upd_same _ _ _ b5
     refine⟨_,_,St.upd_same _ _ _,?_⟩;conv=>whnf
     have p2:=(St.upd_ne _ b5 (.obj 111 needK) b2 n25).trans (St.up (p:=(.obj 111 [.bool false,.bool false,.bool false,.bool false,.bool false,.bool false,.bool false,.bool false,.bool false,.nilf])) hb5 (St.up (p:=(.mapo kindsL)) hr q2))
     have p3:=(St.upd_ne _ b5 (.obj 111 needK) b3 n35).trans (St.up (p:=(.obj 111 [.bool false,.bool false,.bool false,.bool false,.bool false,.bool false,.bool false,.bool false,.bool false,.nilf])) hb5 (St.up (p:=(.mapo kindsL)) hr q3))
     have hlf:=St.le_upd (St.le_upd' (St.le_upd' hle hr (.mapo kindsL)) hb5 (.obj 111 [.bool false,.bool false,.bool false,.bool false,.bool false,.bool false,.bool false,.bool false,.bool false,.nilf])) zb5 (.obj 111 needK)
     unfold needK at p2 p3 hlf;have p5:=St.upd_same ((T.upd r (.mapo kindsL)).upd b5 (.obj 111 [.bool false,.bool false,.bool false,.bool false,.bool false,.bool false,.bool false,.bool false,.bool false,.nilf])) b5 (.obj 111 [.bool false,.bool true,.bool false,.bool false,.bool false,.bool false,.bool false,.bool false,.bool false,.fn (.func 74) [] []]);refine hK _ _ ?_;clear hK hQ K;refine awp_seq2 fun K hK hQ=>?_
     conv=>whnf
     refine⟨_,_,p5,?_⟩;conv=>whnf
     refine hK _ _ ?_;clear hK hQ K;refine awp_seq2 fun K hK hQ=>?_
     conv=>whnf
     refine⟨_,_,p2,?_⟩;conv=>whnf
     refine⟨_,_,p3,?_⟩;conv=>whnf
     refine(hte _).mono ?_;rintro o T' ⟨rfl,rfl⟩;conv=>whnf
     refine hK _ _ ?_;clear hK hQ K;refine awp_seq2 fun K hK hQ=>?_
     conv=>whnf
     refine hK _ _ ?_;clear hK hQ K;refine awp_seq2 fun K hK hQ=>?_
     conv=>whnf
     refine⟨_,_,p2,?_⟩;conv=>whnf
     refine⟨_,_,p5,?_⟩;conv=>whnf
     refine(fieldK_ok _).mono ?_;rintro o T' ⟨rfl,rfl⟩;conv=>whnf
     refine⟨_,_,p5,?_⟩;conv=>whnf
     refine⟨_,_,p2,?_⟩;conv=>whnf
     intro _;conv=>whnf
     refine(hco _ _ _).mono ?_;rintro o T' ⟨rfl,rfl⟩;conv=>whnf
     refine⟨_,_,p5,?_⟩;conv=>whnf
     refine⟨_,_,p2,?_⟩;conv=>whnf
     intro _;conv=>whnf
     refine(hco _ _ _).mono ?_;rintro o T' ⟨rfl,rfl⟩;conv=>whnf
     refine⟨_,_,p5,?_⟩;conv=>whnf
     refine⟨_,_,p2,?_⟩;conv=>whnf
     intro _;conv=>whnf
     refine(hco _ _ _).mono ?_;rintro o T' ⟨rfl,rfl⟩;conv=>whnf
     refine⟨_,_,p2,?_⟩;conv=>whnf
     refine⟨_,_,p5,?_⟩;conv=>whnf
     refine(wideK_ok _).mono ?_;rintro o T' ⟨rfl,rfl⟩;conv=>whnf
     refine⟨_,_,p5,?_⟩;conv=>whnf
     refine⟨_,_,p5,?_⟩;conv=>whnf
     refine⟨_,_,p2,?_⟩;conv=>whnf
     refine(ContainsI_ok (G:=G) (xs:=[0,1]) (by decide) (p:=fun x=>decide (x<0) || decide (x ≥ 2)) fun x _=>con1_ok x p3).mono ?_
     rintro o T' ⟨rfl,rfl⟩;conv=>whnf
     refine⟨_,_,p2,?_⟩;conv=>whnf
     refine(hwi _ _).mono ?_;rintro o T' ⟨rfl,rfl⟩;conv=>whnf
     refine⟨_,_,p2,?_⟩;conv=>whnf
     refine(hwi _ _).mono ?_;rintro o T' ⟨rfl,rfl⟩;conv=>whnf
     refine⟨_,_,p2,?_⟩;conv=>whnf
     refine(great_ok (G:=G) [] (by decide) _).mono ?_
     rintro o T' ⟨rfl,rfl⟩;conv=>whnf
     refine⟨_,_,p2,?_⟩;conv=>whnf
     refine(ContainsL_ok (G:=G) (xs:=[]) (by decide) (p:=fun _=>false) fun x hx=>(by cases hx)).mono ?_
     rintro o T' ⟨rfl,rfl⟩;conv=>whnf
     refine hK _ _ ?_;clear hK hQ K;conv=>whnf
     exact⟨_,_,⟨rfl,rfl⟩,hlf,AV.leS_refl _ _ _⟩
   ·conv=>whnf
    intro b5 hb5;conv=>whnf
    refine(kinds_ok _).mono ?_;rintro o T' ⟨r,hr,rfl,rfl⟩;conv=>whnf
    refine⟨_,St.upd_same _ _ _,?_⟩;conv=>whnf
    have zb5:=St.le_none hle hb5
    have n25:b2≠b5:=fun e=>by rw[← e,q2] at hb5;cases hb5
    have n35:b3≠b5:=fun e=>by rw[← e,q3] at hb5;cases hb5
    -- St.up (p:=(.mapo kindsL)) hr (St.up (p:=(.obj 111 [.bool false,.bool false,.bool false,.bool false,.bool false,.bool false,.bool false,.bool false,.bool false,.nilf])) hb5 q2) b2,St.up (p:=(.mapo kindsL)) hr (St.up (p:=(.obj 111 [.bool false,.bool false,.bool false,.bool false,.bool false,.bool false,.bool false,.bool false,.bool false,.nilf])) hb5 q3) b3,St.le_upd' (St.le_upd' hle hb5 (.obj 111 [.bool false,.bool false,.bool false,.bool false,.bool false,.bool false,.bool false,.bool false,.bool false,.nilf])) hr (.mapo kindsL) le,St.up hr (St.upd_same _ _ _) b5
    refine⟨_,_,St.up hr (St.upd_same _ _ _),?_⟩;conv=>whnf
    have p2:=(St.upd_ne _ b5 (.obj 111 needK) b2 n25).trans (St.up (p:=(.mapo kindsL)) hr (St.up (p:=(.obj 111 [.bool false,.bool false,.bool false,.bool false,.bool false,.bool false,.bool false,.bool false,.bool false,.nilf])) hb5 q2))
    have p3:=(St.upd_ne _ b5 (.obj 111 needK) b3 n35).trans (St.up (p:=(.mapo kindsL)) hr (St.up (p:=(.obj 111 [.bool false,.bool false,.bool false,.bool false,.bool false,.bool false,.bool false,.bool false,.bool false,.nilf])) hb5 q3))
    have hlf:=St.le_upd (St.le_upd' (St.le_upd' hle hb5 (.obj 111 [.bool false,.bool false,.bool false,.bool false,.bool false,.bool false,.bool false,.bool false,.bool false,.nilf])) hr (.mapo kindsL)) zb5 (.obj 111 needK)
    unfold needK at p2 p3 hlf;have p5:=St.upd_same ((T.upd b5 (.obj 111 [.bool false,.bool false,.bool false,.bool false,.bool false,.bool false,.bool false,.bool false,.bool false,.nilf])).upd r (.mapo kindsL)) b5 (.obj 111 [.bool false,.bool true,.bool false,.bool false,.bool false,.bool false,.bool false,.bool false,.bool false,.fn (.func 74) [] []]);refine hK _ _ ?_;clear hK hQ K;refine awp_seq2 fun K hK hQ=>?_
    conv=>whnf
    refine⟨_,_,p5,?_⟩;conv=>whnf
    refine hK _ _ ?_;clear hK hQ K;refine awp_seq2 fun K hK hQ=>?_
    conv=>whnf
    refine⟨_,_,p2,?_⟩;conv=>whnf
    refine⟨_,_,p3,?_⟩;conv=>whnf
    refine(hte _).mono ?_;rintro o T' ⟨rfl,rfl⟩;conv=>whnf
    refine hK _ _ ?_;clear hK hQ K;refine awp_seq2 fun K hK hQ=>?_
    conv=>whnf
    refine hK _ _ ?_;clear hK hQ K;refine awp_seq2 fun K hK hQ=>?_
    conv=>whnf
    refine⟨_,_,p2,?_⟩;conv=>whnf
    refine⟨_,_,p5,?_⟩;conv=>whnf
    refine(fieldK_ok _).mono ?_;rintro o T' ⟨rfl,rfl⟩;conv=>whnf
    refine⟨_,_,p5,?_⟩;conv=>whnf
    refine⟨_,_,p2,?_⟩;conv=>whnf
    intro _;conv=>whnf
    refine(hco _ _ _).mono ?_;rintro o T' ⟨rfl,rfl⟩;conv=>whnf
    refine⟨_,_,p5,?_⟩;conv=>whnf
    refine⟨_,_,p2,?_⟩;conv=>whnf
    intro _;conv=>whnf
    refine(hco _ _ _).mono ?_;rintro o T' ⟨rfl,rfl⟩;conv=>whnf
    refine⟨_,_,p5,?_⟩;conv=>whnf
    refine⟨_,_,p2,?_⟩;conv=>whnf
    intro _;conv=>whnf
    refine(hco _ _ _).mono ?_;rintro o T' ⟨rfl,rfl⟩;conv=>whnf
    refine⟨_,_,p2,?_⟩;conv=>whnf
    refine⟨_,_,p5,?_⟩;conv=>whnf
    refine(wideK_ok _).mono ?_;rintro o T' ⟨rfl,rfl⟩;conv=>whnf
    refine⟨_,_,p5,?_⟩;conv=>whnf
    refine⟨_,_,p5,?_⟩;conv=>whnf
    refine⟨_,_,p2,?_⟩;conv=>whnf
    refine(ContainsI_ok (G:=G) (xs:=[0,1]) (by decide) (p:=fun x=>decide (x<0) || decide (x ≥ 2)) fun x _=>con1_ok x p3).mono ?_
    rintro o T' ⟨rfl,rfl⟩;conv=>whnf
    refine⟨_,_,p2,?_⟩;conv=>whnf
    refine(hwi _ _).mono ?_;rintro o T' ⟨rfl,rfl⟩;conv=>whnf
    refine⟨_,_,p2,?_⟩;conv=>whnf
    refine(hwi _ _).mono ?_;rintro o T' ⟨rfl,rfl⟩;conv=>whnf
    refine⟨_,_,p2,?_⟩;conv=>whnf
    refine(great_ok (G:=G) [] (by decide) _).mono ?_
    rintro o T' ⟨rfl,rfl⟩;conv=>whnf
    refine⟨_,_,p2,?_⟩;conv=>whnf
    refine(ContainsL_ok (G:=G) (xs:=[]) (by decide) (p:=fun _=>false) fun x hx=>(by cases hx)).mono ?_
    rintro o T' ⟨rfl,rfl⟩;conv=>whnf
    refine hK _ _ ?_;clear hK hQ K;conv=>whnf
    exact⟨_,_,⟨rfl,rfl⟩,hlf,AV.leS_refl _ _ _⟩
  ·conv=>whnf
   intro b5 hb5;conv=>whnf
   refine⟨?_,?_⟩
   ·conv=>whnf
    refine(kinds_ok _).mono ?_;rintro o T' ⟨r,hr,rfl,rfl⟩;conv=>whnf
    refine⟨_,_,St.up hr (St.up hb5 q2),?_⟩;conv=>whnf
    refine⟨_,St.upd_same _ _ _,?_⟩;conv=>whnf
    have zb5:=St.le_none hle hb5
    have n25:b2≠b5:=fun e=>by rw[← e,q2] at hb5;cases hb5
    have n35:b3≠b5:=fun e=>by rw[← e,q3] at hb5;cases hb5
    -- St.up (p:=(.mapo kindsL)) hr (St.up (p:=(.obj 111 [.bool false,.bool false,.bool false,.bool false,.bool false,.bool false,.bool false,.bool false,.bool false,.nilf])) hb5 q2) b2,St.up (p:=(.mapo kindsL)) hr (St.up (p:=(.obj 111 [.bool false,.bool false,.bool false,.bool false,.bool false,.bool false,.bool false,.bool false,.bool false,.nilf])) hb5 q3) b3,St.le_upd' (St.le_upd' hle hb5 (.obj 111 [.bool false,.bool false,.bool false,.bool false,.bool false,.bool false,.bool false,.bool false,.bool false,.nilf])) hr (.mapo kindsL) le,St.up hr (St.upd_same _ _ _) b5
    refine⟨_,_,St.up hr (St.upd_same _ _ _),?_⟩;conv=>whnf
    have p2:=(St.upd_ne _ b5 (.obj 111 needK) b2 n25).trans (St.up (p:=(.mapo kindsL)) hr (St.up (p:=(.obj 111 [.bool false,.bool false,.bool false,.bool false,.bool false,.bool false,.bool false,.bool false,.bool false,.nilf])) hb5 q2))
    have p3:=(St.upd_ne _ b5 (.obj 111 needK) b3 n35).trans (St.up (p:=(.mapo kindsL)) hr (St.up (p:=(.obj 111 [.bool false,.bool false,.bool false,.bool false,.bool false,.bool false,.bool false,.bool false,.bool false,.nilf])) hb5 q3))
    have hlf:=St.le_upd (St.le_upd' (St.le_upd' hle hb5 (.obj 111 [.bool false,.bool false,.bool false,.bool false,.bool false,.bool false,.bool false,.bool false,.bool false,.nilf])) hr (.mapo kindsL)) zb5 (.obj 111 needK)
    unfold needK at p2 p3 hlf;have p5:=St.upd_same ((T.upd b5 (.obj 111 [.bool false,.bool false,.bool false,.bool false,.bool false,.bool false,.bool false,.bool false,.bool false,.nilf])).upd r (.mapo kindsL)) b5 (.obj 111 [.bool false,.bool true,.bool false,.bool false,.bool false,.bool false,.bool false,.bool false,.bool false,.fn (.func 74) [] []]);refine hK _ _ ?_;clear hK hQ K;refine awp_seq2 fun K hK hQ=>?_
    conv=>whnf
    refine⟨_,_,p5,?_⟩;conv=>whnf
    refine hK _ _ ?_;clear hK hQ K;refine awp_seq2 fun K hK hQ=>?_
    conv=>whnf
    refine⟨_,_,p2,?_⟩;conv=>whnf
    refine⟨_,_,p3,?_⟩;conv=>whnf
    refine(hte _).mono ?_;rintro o T' ⟨rfl,rfl⟩;conv=>whnf
    refine hK _ _ ?_;clear hK hQ K;refine awp_seq2 fun K hK hQ=>?_
    conv=>whnf
    refine hK _ _ ?_;clear hK hQ K;refine awp_seq2 fun K hK hQ=>?_
    conv=>whnf
    refine⟨_,_,p2,?_⟩;conv=>whnf
    refine⟨_,_,p5,?_⟩;conv=>whnf
    refine(fieldK_ok _).mono ?_;rintro o T' ⟨rfl,rfl⟩;conv=>whnf
    refine⟨_,_,p5,?_⟩;conv=>whnf
    refine⟨_,_,p2,?_⟩;conv=>whnf
    intro _;conv=>whnf
    refine(hco _ _ _).mono ?_;rintro o T' ⟨rfl,rfl⟩;conv=>whnf
    refine⟨_,_,p5,?_⟩;conv=>whnf
    refine⟨_,_,p2,?_⟩;conv=>whnf
    intro _;conv=>whnf
    refine(hco _ _ _).mono ?_;rintro o T' ⟨rfl,rfl⟩;conv=>whnf
    refine⟨_,_,p5,?_⟩;conv=>whnf
    refine⟨_,_,p2,?_⟩;conv=>whnf
    intro _;conv=>whnf
    refine(hco _ _ _).mono ?_;rintro o T' ⟨rfl,rfl⟩;conv=>whnf
    refine⟨_,_,p2,?_⟩;conv=>whnf
    refine⟨_,_,p5,?_⟩;conv=>whnf
    refine(wideK_ok _).mono ?_;rintro o T' ⟨rfl,rfl⟩;conv=>whnf
    refine⟨_,_,p5,?_⟩;conv=>whnf
    refine⟨_,_,p5,?_⟩;conv=>whnf
    refine⟨_,_,p2,?_⟩;conv=>whnf
    refine(ContainsI_ok (G:=G) (xs:=[0,1]) (by decide) (p:=fun x=>decide (x<0) || decide (x ≥ 2)) fun x _=>con1_ok x p3).mono ?_
    rintro o T' ⟨rfl,rfl⟩;conv=>whnf
    refine⟨_,_,p2,?_⟩;conv=>whnf
    refine(hwi _ _).mono ?_;rintro o T' ⟨rfl,rfl⟩;conv=>whnf
    refine⟨_,_,p2,?_⟩;conv=>whnf
    refine(hwi _ _).mono ?_;rintro o T' ⟨rfl,rfl⟩;conv=>whnf
    refine⟨_,_,p2,?_⟩;conv=>whnf
    refine(great_ok (G:=G) [] (by decide) _).mono ?_
    rintro o T' ⟨rfl,rfl⟩;conv=>whnf
    refine⟨_,_,p2,?_⟩;conv=>whnf
    refine(ContainsL_ok (G:=G) (xs:=[]) (by decide) (p:=fun _=>false) fun x hx=>(by cases hx)).mono ?_
    rintro o T' ⟨rfl,rfl⟩;conv=>whnf
    refine hK _ _ ?_;clear hK hQ K;conv=>whnf
    exact⟨_,_,⟨rfl,rfl⟩,hlf,AV.leS_refl _ _ _⟩
   ·conv=>whnf
    refine⟨_,_,St.up hb5 q2,?_⟩;conv=>whnf
    refine(kinds_ok _).mono ?_;rintro o T' ⟨r,hr,rfl,rfl⟩;conv=>whnf
    refine⟨_,St.upd_same _ _ _,?_⟩;conv=>whnf
    have zb5:=St.le_none hle hb5
    have n25:b2≠b5:=fun e=>by rw[← e,q2] at hb5;cases hb5
    have n35:b3≠b5:=fun e=>by rw[← e,q3] at hb5;cases hb5
    -- St.up (p:=(.mapo kindsL)) hr (St.up (p:=(.obj 111 [.bool false,.bool false,.bool false,.bool false,.bool false,.bool false,.bool false,.bool false,.bool false,.nilf])) hb5 q2) b2,St.up (p:=(.mapo kindsL)) hr (St.up (p:=(.obj 111 [.bool false,.bool false,.bool false,.bool false,.bool false,.bool false,.bool false,.bool false,.bool false,.nilf])) hb5 q3) b3,St.le_upd' (St.le_upd' hle hb5 (.obj 111 [.bool false,.bool false,.bool false,.bool false,.bool false,.bool false,.bool false,.bool false,.bool false,.nilf])) hr (.mapo kindsL) le,St.up hr (St.upd_same _ _ _) b5
    refine⟨_,_,St.up hr (St.upd_same _ _ _),?_⟩;conv=>whnf
    have p2:=(St.upd_ne _ b5 (.obj 111 needK) b2 n25).trans (St.up (p:=(.mapo kindsL)) hr (St.up (p:=(.obj 111 [.bool false,.bool false,.bool false,.bool false,.bool false,.bool false,.bool false,.bool false,.bool false,.nilf])) hb5 q2))
    have p3:=(St.upd_ne _ b5 (.obj 111 needK) b3 n35).trans (St.up (p:=(.mapo kindsL)) hr (St.up (p:=(.obj 111 [.bool false,.bool false,.bool false,.bool false,.bool false,.bool false,.bool false,.bool false,.bool false,.nilf])) hb5 q3))
    have hlf:=St.le_upd (St.le_upd' (St.le_upd' hle hb5 (.obj 111 [.bool false,.bool false,.bool false,.bool false,.bool false,.bool false,.bool false,.bool false,.bool false,.nilf])) hr (.mapo kindsL)) zb5 (.obj 111 needK)
    unfold needK at p2 p3 hlf;have p5:=St.upd_same ((T.upd b5 (.obj 111 [.bool false,.bool false,.bool false,.bool false,.bool false,.bool false,.bool false,.bool false,.bool false,.nilf])).upd r (.mapo kindsL)) b5 (.obj 111 [.bool false,.bool true,.bool false,.bool false,.bool false,.bool false,.bool false,.bool false,.bool false,.fn (.func 74) [] []]);refine hK _ _ ?_;clear hK hQ K;refine awp_seq2 fun K hK hQ=>?_
    conv=>whnf
    refine⟨_,_,p5,?_⟩;conv=>whnf
    refine hK _ _ ?_;clear hK hQ K;refine awp_seq2 fun K hK hQ=>?_
    conv=>whnf
    refine⟨_,_,p2,?_⟩;conv=>whnf
    refine⟨_,_,p3,?_⟩;conv=>whnf
    refine(hte _).mono ?_;rintro o T' ⟨rfl,rfl⟩;conv=>whnf
    refine hK _ _ ?_;clear hK hQ K;refine awp_seq2 fun K hK hQ=>?_
    conv=>whnf
    refine hK _ _ ?_;clear hK hQ K;refine awp_seq2 fun K hK hQ=>?_
    conv=>whnf
    refine⟨_,_,p2,?_⟩;conv=>whnf
    refine⟨_,_,p5,?_⟩;conv=>whnf
    refine(fieldK_ok _).mono ?_;rintro o T' ⟨rfl,rfl⟩;conv=>whnf
    refine⟨_,_,p5,?_⟩;conv=>whnf
    refine⟨_,_,p2,?_⟩;conv=>whnf
    intro _;conv=>whnf
    refine(hco _ _ _).mono ?_;rintro o T' ⟨rfl,rfl⟩;conv=>whnf
    refine⟨_,_,p5,?_⟩;conv=>whnf
    refine⟨_,_,p2,?_⟩;conv=>whnf
    intro _;conv=>whnf
    refine(hco _ _ _).mono ?_;rintro o T' ⟨rfl,rfl⟩;conv=>whnf
    refine⟨_,_,p5,?_⟩;conv=>whnf
    refine⟨_,_,p2,?_⟩;conv=>whnf
    intro _;conv=>whnf
    refine(hco _ _ _).mono ?_;rintro o T' ⟨rfl,rfl⟩;conv=>whnf
    refine⟨_,_,p2,?_⟩;conv=>whnf
    refine⟨_,_,p5,?_⟩;conv=>whnf
    refine(wideK_ok _).mono ?_;rintro o T' ⟨rfl,rfl⟩;conv=>whnf
    refine⟨_,_,p5,?_⟩;conv=>whnf
    refine⟨_,_,p5,?_⟩;conv=>whnf
    refine⟨_,_,p2,?_⟩;conv=>whnf
    refine(ContainsI_ok (G:=G) (xs:=[0,1]) (by decide) (p:=fun x=>decide (x<0) || decide (x ≥ 2)) fun x _=>con1_ok x p3).mono ?_
    rintro o T' ⟨rfl,rfl⟩;conv=>whnf
    refine⟨_,_,p2,?_⟩;conv=>whnf
    refine(hwi _ _).mono ?_;rintro o T' ⟨rfl,rfl⟩;conv=>whnf
    refine⟨_,_,p2,?_⟩;conv=>whnf
    refine(hwi _ _).mono ?_;rintro o T' ⟨rfl,rfl⟩;conv=>whnf
    refine⟨_,_,p2,?_⟩;conv=>whnf
    refine(great_ok (G:=G) [] (by decide) _).mono ?_
    rintro o T' ⟨rfl,rfl⟩;conv=>whnf
    refine⟨_,_,p2,?_⟩;conv=>whnf
    refine(ContainsL_ok (G:=G) (xs:=[]) (by decide) (p:=fun _=>false) fun x hx=>(by cases hx)).mono ?_
    rintro o T' ⟨rfl,rfl⟩;conv=>whnf
    refine hK _ _ ?_;clear hK hQ K;conv=>whnf
    exact⟨_,_,⟨rfl,rfl⟩,hlf,AV.leS_refl _ _ _⟩
theorem holds1_ok{vals:List Int}{x:Int}(h0:0≤x)(h1:x<vals.length)(S:St):Triple P (C G) 55 [.int .i64 x,.imm [.sl .any 1 (rowsI vals)]] S fun o S'=>o=.ret (.int .i64 (at0 vals x))∧S'=S:=by
 have hlt:x.toNat<vals.length:=by omega
 have ga:(rowsI vals)[x.toNat]? = some [.int .i64 (at0 vals x)]:=by simp[rowsI,at0,hlt]
 refine triple_of_awp (hT G) hm Tryz.func55 rfl (by decide +kernel) rfl (by decide +kernel) (by show 2≤_;decide +kernel) rfl ?_
 conv=>whnf
 refine⟨_,⟨h0,ga⟩,?_⟩;conv=>whnf
 exact⟨_,_,⟨rfl,rfl⟩,St.le_refl _,AV.leS_refl _ _ _⟩
def diffV(l:List Int):Bool:=((Lib.compact (l.mergeSort fun x y=>decide (x≤y))).length:Int) == (l.length:Int)
theorem allDiff_ok{vals:List Int}{c:ConV}(hx:∀ x∈c.xs,0≤x∧x<vals.length)(hne:c.xs≠[])(hn:c.xs.length≤1000000)(S:St) :
 Triple P (C G) 74 [.ag (rowC c),.fn (.func 55) [] [.imm [.sl .any 1 (rowsI vals)]]] S fun o S'=>o=.ret (.bool (diffV (c.xs.map (at0 vals))))∧S'=S:=by
 have he:=fun S=>Triple.thawI (by simpa using hne) (each_ok (G:=G) c.xs (by omega) (g:=55) (caps:=[.imm [.sl .any 1 (rowsI vals)]]) (f:=at0 vals) (S:=St.emp) (fun x hxx S1 _=>holds1_ok (hx x hxx).1 (hx x hxx).2 S1) hne) S
 have hml:(c.xs.map (at0 vals)).length=c.xs.length:=by simp
 have hil:=rowsI_len c.xs
 unfold diffV;rw[hml];generalize c.xs.map (at0 vals)=ys at *;unfold rowC;generalize rowsI c.xs=xrows at *;generalize rowsTm c.terms=r1 at *;generalize rowsI c.table=r2 at *;generalize rowsLL c.rows=r3 at *;refine triple_of_awp (hT G) hm Tryz.func74 rfl (by decide +kernel) rfl (by decide +kernel) (by show 2≤_;decide +kernel) rfl ?_
 refine awp_seq2 fun K hK hQ=>?_
 conv=>whnf
 intro b2 hb2;conv=>whnf
 refine hK _ _ ?_;clear hK hQ K;refine awp_seq2 fun K hK hQ=>?_
 conv=>whnf
 refine⟨_,_,St.upd_same _ _ _,?_⟩;conv=>whnf
 refine(he _).mono ?_;rintro o T ⟨b,cap,junk,hb,rfl,rfl,hc1,hc2,hc3⟩;conv=>whnf
 refine hK _ _ ?_;clear hK hQ K;refine awp_seq2 fun K hK hQ=>?_
 conv=>whnf
 refine(sort_ok (G:=G) (St.upd_same _ _ _) (by omega)).mono ?_
 rintro o T ⟨rfl,rfl⟩;rw[St.upd_upd];conv=>whnf
 refine hK _ _ ?_;clear hK hQ K;generalize hzs:(ys.mergeSort fun x y=>decide (x≤y))=zs
 have hzl:zs.length=ys.length:=by rw[← hzs];simp
 rw[← hzl] at hc1 ⊢;refine awp_seq2 fun K hK hQ=>?_
 have hco:∀ T:St,T b=some (.obj 3 (zs.map (AV.int .i64)++junk))→_:=fun T h=>compact_ok (G:=G) (cap:=cap) h (by omega) hc1
 have hcl:(Lib.compact zs).length≤zs.length:=Lib.compact_length_le zs
 generalize hcn:Lib.compact zs=cz at *;refine⟨[],(.free 0 (.free 3 (.one 1 (.free 2 (.free 4 (.free 5 (.free 6 (.free 7 .done))))) (.one 4 (.free 5 (.one 1 (.free 2 (.free 6 (.free 7 .done))) .none)) .none)))),_,by decide +kernel,?_,fun _ _ h=>⟨_,.inl rfl,h⟩⟩
 have q2:(S.upd b2 (.obj 51 [.int .i64 c.kind,.int .i64 c.op,.sl .any 2 r1,.int .i64 c.k,.int .i64 c.v,.int .i64 c.x,.int .i64 c.y,.sl .any 1 xrows,.sl .any 1 r2,.sl .any 1 r3])) b2=_:=St.upd_same _ _ _
 have hle:=St.le_upd' (St.le_refl S) hb2 (.obj 51 [.int .i64 c.kind,.int .i64 c.op,.sl .any 2 r1,.int .i64 c.k,.int .i64 c.v,.int .i64 c.x,.int .i64 c.y,.sl .any 1 xrows,.sl .any 1 r2,.sl .any 1 r3])
 have hb0:S b=none:=St.le_none hle hb
 refine⟨?_,?_⟩
 ·conv=>whnf
  refine(hco _ (St.upd_same _ _ _)).mono ?_;rintro o T ⟨rfl,rfl⟩;rw[St.upd_upd];conv=>whnf
  refine⟨_,_,St.up hb q2,?_⟩;conv=>whnf
  rw[hil];refine hK _ _ ?_;clear hK hQ K;conv=>whnf
  exact⟨_,_,⟨rfl,rfl⟩,St.le_upd hle hb0 _,AV.leS_refl _ _ _⟩
 ·conv=>whnf
  refine⟨_,_,St.up hb q2,?_⟩;conv=>whnf
  refine(hco _ (St.upd_same _ _ _)).mono ?_;rintro o T ⟨rfl,rfl⟩;rw[St.upd_upd];conv=>whnf
  rw[hil];refine hK _ _ ?_;clear hK hQ K;conv=>whnf
  exact⟨_,_,⟨rfl,rfl⟩,St.le_upd hle hb0 _,AV.leS_refl _ _ _⟩
def conKV:ConV:=⟨3,0,[],0,0,0,0,[0,1],[],[]⟩
def holdsKV(v:List Int):Bool:=!greatV v && diffV v
theorem HoldsK_ok{vals:List Int}(hv:vals.length=2)(S:St):Triple P (C G) 34 [.ag rowK,.sl .any 1 (rowsI vals)] S fun o S'=>o=.ret (.bool (holdsKV vals))∧S'=S:=by
 have hsz:=fun S=>sized_ok (G:=G) vals (by omega) S
 have hco:=fun S=>conK_ok (G:=G) S
 have hil:=rowsI_len vals
 have hd:∀ S,Triple P (C G) 74 [.ag rowK,.fn (.func 55) [] [.imm [.sl .any 1 (rowsI vals)]]] S fun o S'=>o=.ret (.bool (diffV vals))∧S'=S:=fun S=>by
  have h:=allDiff_ok (G:=G) (vals:=vals) (c:=conKV) (by intro x hx;simp[conKV] at hx;omega) (by simp[conKV]) (by simp[conKV]) S
  have e:conKV.xs.map (at0 vals)=vals:=by
   match vals,hv with
   | [a,b],_=>rfl
  rw[e] at h;exact h
 unfold holdsKV;unfold rowK at *;generalize rowsI vals=vrows at *;rw[hv] at hil;generalize diffV vals=d at *;generalize greatV vals=g at *;refine triple_of_awp (hT G) hm Tryz.func34 rfl (by decide +kernel) rfl (by decide +kernel) (by show 2≤_;decide +kernel) rfl ?_
 refine awp_seq2 fun K hK hQ=>?_
 conv=>whnf
 intro b2 hb2;conv=>whnf
 intro b3 hb3;conv=>whnf
 refine hK _ _ ?_;clear hK hQ K;have q3:=St.upd_same (S.upd b2 (.obj 51 rowK)) b3 (.obj 27 [.sl .any 1 vrows]);have q2:((S.upd b2 (.obj 51 rowK)).upd b3 (.obj 27 [.sl .any 1 vrows])) b2=some (.obj 51 rowK):=St.up hb3 (St.upd_same _ _ _);have hle:St.le S ((S.upd b2 (.obj 51 rowK)).upd b3 (.obj 27 [.sl .any 1 vrows])):=St.le_upd' (St.le_upd' (St.le_refl S) hb2 _) hb3 _;have hne:b3≠b2:=fun e=>by subst e;rw[St.upd_same] at hb3;cases hb3
 have hdl:((S.upd b2 (.obj 51 rowK)).upd b3 (.obj 27 [.sl .any 1 vrows])).del b3=S.upd b2 (.obj 51 rowK):=St.del_upd hb3
 change awp _ _ _ _ ((S.upd b2 (.obj 51 rowK)).upd b3 (.obj 27 [.sl .any 1 vrows])) _;have hle2:St.le S (S.upd b2 (.obj 51 rowK)):=St.le_upd' (St.le_refl S) hb2 _;generalize (S.upd b2 (.obj 51 rowK)).upd b3 (.obj 27 [.sl .any 1 vrows])=T at *;unfold rowK at q2;refine awp_seq2 fun K hK hQ=>?_
 conv=>whnf
 refine⟨_,_,q2,?_⟩;conv=>whnf
 refine⟨_,_,q3,?_⟩;conv=>whnf
 intro _;rw[hil,show((2:Nat):Int)=2 from rfl];conv=>whnf
 refine(hco _).mono ?_;rintro o T' ⟨rfl,rfl⟩;conv=>whnf
 refine⟨_,_,q3,?_⟩;conv=>whnf
 refine(hsz _).mono ?_;rintro o T' ⟨rfl,rfl⟩
 cases g with
 | true=>
   conv=>whnf
   refine hQ _ _ _ (by simp) ?_
   clear hK hQ K;conv=>whnf
   exact⟨_,_,⟨rfl,rfl⟩,hle,AV.leS_refl _ _ _⟩
 | false=>
   conv=>whnf
   refine hK _ _ ?_;clear hK hQ K;refine awp_seq2 fun K hK hQ=>?_
   have hS3:S b3=none:=St.le_none hle2 hb3
   refine⟨[],(.free 1 (.free 6 (.one 0 (.free 2 (.one 3 (.free 4 (.free 5 (.one 7 (.free 8 .done) .none))) (.one 5 (.one 3 (.free 4 (.one 7 (.free 8 .done) .none)) .none) .none))) (.one 2 (.one 0 (.one 3 (.free 4 (.free 5 (.one 7 (.free 8 .done) .none))) (.one 5 (.one 3 (.free 4 (.one 7 (.free 8 .done) .none)) .none) .none)) (.one 5 (.one 0 (.one 3 (.free 4 (.one 7 (.free 8 .done) .none)) .none) .none) .none)) (.one 5 (.one 0 (.free 2 (.one 3 (.free 4 (.one 7 (.free 8 .done) .none)) .none)) (.one 2 (.one 0 (.one 3 (.free 4 (.one 7 (.free 8 .done) .none)) .none) .none) .none)) .none))))),_,by decide +kernel,?_,fun _ _ h=>⟨_,.inl rfl,h⟩⟩
   refine⟨?_,⟨?_,?_⟩⟩
   ·skip
    conv=>whnf
    refine(kinds_ok _).mono ?_;rintro o T' ⟨r,hr,rfl,rfl⟩;conv=>whnf
    conv=>whnf
    refine⟨_,_,St.up hr q2,?_⟩;conv=>whnf
    refine⟨?_,?_⟩
    ·skip
     conv=>whnf
     refine⟨_,St.upd_same _ _ _,?_⟩;conv=>whnf
     conv=>whnf
     refine⟨_,_,St.up hr q2,?_⟩;conv=>whnf
     conv=>whnf
     refine(Triple.freezeF (St.up hr q3) (fun w v h=>Rel.mono (Adv.shrink (St.del_le _ _)) _ _ h) (hd _)).mono ?_
     rintro o T' ⟨rfl,rfl⟩;conv=>whnf
     refine hK _ _ ?_;clear hK hQ K;conv=>whnf
     exact⟨_,_,⟨rfl,rfl⟩,St.le_del (St.le_upd' hle hr _) hS3,AV.leS_refl _ _ _⟩
    ·skip
     conv=>whnf
     refine⟨_,_,St.up hr q2,?_⟩;conv=>whnf
     conv=>whnf
     refine⟨_,St.upd_same _ _ _,?_⟩;conv=>whnf
     conv=>whnf
     refine(Triple.freezeF (St.up hr q3) (fun w v h=>Rel.mono (Adv.shrink (St.del_le _ _)) _ _ h) (hd _)).mono ?_
     rintro o T' ⟨rfl,rfl⟩;conv=>whnf
     refine hK _ _ ?_;clear hK hQ K;conv=>whnf
     exact⟨_,_,⟨rfl,rfl⟩,St.le_del (St.le_upd' hle hr _) hS3,AV.leS_refl _ _ _⟩
   ·skip
    conv=>whnf
    refine⟨_,_,q2,?_⟩;conv=>whnf
    refine⟨?_,?_⟩
    ·skip
     conv=>whnf
     refine(kinds_ok _).mono ?_;rintro o T' ⟨r,hr,rfl,rfl⟩;conv=>whnf
     refine⟨?_,?_⟩
     ·skip
      conv=>whnf
      refine⟨_,St.upd_same _ _ _,?_⟩;conv=>whnf
      conv=>whnf
      refine⟨_,_,St.up hr q2,?_⟩;conv=>whnf
      conv=>whnf
      refine(Triple.freezeF (St.up hr q3) (fun w v h=>Rel.mono (Adv.shrink (St.del_le _ _)) _ _ h) (hd _)).mono ?_
      rintro o T' ⟨rfl,rfl⟩;conv=>whnf
      refine hK _ _ ?_;clear hK hQ K;conv=>whnf
      exact⟨_,_,⟨rfl,rfl⟩,St.le_del (St.le_upd' hle hr _) hS3,AV.leS_refl _ _ _⟩
     ·skip
      conv=>whnf
      refine⟨_,_,St.up hr q2,?_⟩;conv=>whnf
      conv=>whnf
      refine⟨_,St.upd_same _ _ _,?_⟩;conv=>whnf
      conv=>whnf
      refine(Triple.freezeF (St.up hr q3) (fun w v h=>Rel.mono (Adv.shrink (St.del_le _ _)) _ _ h) (hd _)).mono ?_
      rintro o T' ⟨rfl,rfl⟩;conv=>whnf
      refine hK _ _ ?_;clear hK hQ K;conv=>whnf
      exact⟨_,_,⟨rfl,rfl⟩,St.le_del (St.le_upd' hle hr _) hS3,AV.leS_refl _ _ _⟩
    ·skip
     conv=>whnf
     refine⟨_,_,q2,?_⟩;conv=>whnf
     conv=>whnf
     refine(kinds_ok _).mono ?_;rintro o T' ⟨r,hr,rfl,rfl⟩;conv=>whnf
     conv=>whnf
     refine⟨_,St.upd_same _ _ _,?_⟩;conv=>whnf
     conv=>whnf
     refine(Triple.freezeF (St.up hr q3) (fun w v h=>Rel.mono (Adv.shrink (St.del_le _ _)) _ _ h) (hd _)).mono ?_
     rintro o T' ⟨rfl,rfl⟩;conv=>whnf
     refine hK _ _ ?_;clear hK hQ K;conv=>whnf
     exact⟨_,_,⟨rfl,rfl⟩,St.le_del (St.le_upd' hle hr _) hS3,AV.leS_refl _ _ _⟩
   ·skip
    conv=>whnf
    refine⟨_,_,q2,?_⟩;conv=>whnf
    refine⟨?_,?_⟩
    ·skip
     conv=>whnf
     refine(kinds_ok _).mono ?_;rintro o T' ⟨r,hr,rfl,rfl⟩;conv=>whnf
     conv=>whnf
     refine⟨_,_,St.up hr q2,?_⟩;conv=>whnf
     conv=>whnf
     refine⟨_,St.upd_same _ _ _,?_⟩;conv=>whnf
     conv=>whnf
     refine(Triple.freezeF (St.up hr q3) (fun w v h=>Rel.mono (Adv.shrink (St.del_le _ _)) _ _ h) (hd _)).mono ?_
     rintro o T' ⟨rfl,rfl⟩;conv=>whnf
     refine hK _ _ ?_;clear hK hQ K;conv=>whnf
     exact⟨_,_,⟨rfl,rfl⟩,St.le_del (St.le_upd' hle hr _) hS3,AV.leS_refl _ _ _⟩
    ·skip
     conv=>whnf
     refine⟨_,_,q2,?_⟩;conv=>whnf
     conv=>whnf
     refine(kinds_ok _).mono ?_;rintro o T' ⟨r,hr,rfl,rfl⟩;conv=>whnf
     conv=>whnf
     refine⟨_,St.upd_same _ _ _,?_⟩;conv=>whnf
     conv=>whnf
     refine(Triple.freezeF (St.up hr q3) (fun w v h=>Rel.mono (Adv.shrink (St.del_le _ _)) _ _ h) (hd _)).mono ?_
     rintro o T' ⟨rfl,rfl⟩;conv=>whnf
     refine hK _ _ ?_;clear hK hQ K;conv=>whnf
     exact⟨_,_,⟨rfl,rfl⟩,St.le_del (St.le_upd' hle hr _) hS3,AV.leS_refl _ _ _⟩
theorem CloneI_ok(rows:List (List AV))(hr:rows.length*8≤140737488355328)(S:St):Triple P (C G) 41 [.sl .any 1 rows] S fun o S'=>o=.ret (.sl .any 1 rows)∧S'=S:=by
 -- slices.Clone[[]int,int] function,1 k,3 the elements' type,8 bytes,exact⟨_,_,⟨rfl,rfl⟩,St.le_refl _,rfl⟩ the end where it is nothing,exact⟨_,_,⟨rfl,rfl⟩,St.le_upd' (St.le_refl _) hb1 _,⟨rfl,rfl⟩⟩ the end
 refine triple_of_awp (hT G) hm Tryz.func41 rfl (by decide +kernel) rfl (by decide +kernel) (by show 1≤_;decide +kernel) rfl ?_
 refine awp_seq2 fun K hK hQ=>?_
 conv=>whnf
 refine hK _ _ ?_;clear hK hQ K;refine awp_seq2 fun K hK hQ=>?_
 conv=>whnf
 intro c hc;conv=>whnf
 cases c with
 | true=>
   have hz:rows=[]:=by
    cases rows with
    | nil=>rfl
    | cons r rs=>exact absurd (hc (by simp)) (by simp)
   subst hz;conv=>whnf
   refine hQ _ _ _ (by simp) ?_
   clear hK hQ K;conv=>whnf
   exact⟨_,_,⟨rfl,rfl⟩,St.le_refl _,rfl⟩
 | false=>
   conv=>whnf
   refine hK _ _ ?_;clear hK hQ K hc;conv=>whnf
   intro b0 hb0;conv=>whnf
   refine⟨⟨St.upd_same _ _ _,?_⟩,?_⟩
   ·show(0+rows.length)*8≤_;omega
   conv=>whnf
   intro b1 hb1;rw[St.del_upd hb0] at hb1 ⊢;conv=>whnf
   exact⟨_,_,⟨rfl,rfl⟩,St.le_upd' (St.le_refl _) hb1 _,⟨rfl,rfl⟩⟩
theorem CloneV_ok(rows:List (List AV))(hr:rows.length*32≤140737488355328)(S:St):Triple P (C G) 38 [.sl .any 3 rows] S fun o S'=>o=.ret (.sl .any 3 rows)∧S'=S:=by
 -- slices.Clone[[]hallmark/api.Var,hallmark/api.Var] function,3 k,49 the elements' type,32 bytes,exact⟨_,_,⟨rfl,rfl⟩,St.le_refl _,rfl⟩ the end where it is nothing,exact⟨_,_,⟨rfl,rfl⟩,St.le_upd' (St.le_refl _) hb1 _,⟨rfl,rfl⟩⟩ the end
 refine triple_of_awp (hT G) hm Tryz.func38 rfl (by decide +kernel) rfl (by decide +kernel) (by show 1≤_;decide +kernel) rfl ?_
 refine awp_seq2 fun K hK hQ=>?_
 conv=>whnf
 refine hK _ _ ?_;clear hK hQ K;refine awp_seq2 fun K hK hQ=>?_
 conv=>whnf
 intro c hc;conv=>whnf
 cases c with
 | true=>
   have hz:rows=[]:=by
    cases rows with
    | nil=>rfl
    | cons r rs=>exact absurd (hc (by simp)) (by simp)
   subst hz;conv=>whnf
   refine hQ _ _ _ (by simp) ?_
   clear hK hQ K;conv=>whnf
   exact⟨_,_,⟨rfl,rfl⟩,St.le_refl _,rfl⟩
 | false=>
   conv=>whnf
   refine hK _ _ ?_;clear hK hQ K hc;conv=>whnf
   intro b0 hb0;conv=>whnf
   refine⟨⟨St.upd_same _ _ _,?_⟩,?_⟩
   ·show(0+rows.length)*32≤_;omega
   conv=>whnf
   intro b1 hb1;rw[St.del_upd hb0] at hb1 ⊢;conv=>whnf
   exact⟨_,_,⟨rfl,rfl⟩,St.le_upd' (St.le_refl _) hb1 _,⟨rfl,rfl⟩⟩
theorem CloneT_ok(rows:List (List AV))(hr:rows.length*16≤140737488355328)(S:St):Triple P (C G) 39 [.sl .any 2 rows] S fun o S'=>o=.ret (.sl .any 2 rows)∧S'=S:=by
 -- slices.Clone[[]hallmark/api.Term,hallmark/api.Term] function,2 k,67 the elements' type,16 bytes,exact⟨_,_,⟨rfl,rfl⟩,St.le_refl _,rfl⟩ the end where it is nothing,exact⟨_,_,⟨rfl,rfl⟩,St.le_upd' (St.le_refl _) hb1 _,⟨rfl,rfl⟩⟩ the end
 refine triple_of_awp (hT G) hm Tryz.func39 rfl (by decide +kernel) rfl (by decide +kernel) (by show 1≤_;decide +kernel) rfl ?_
 refine awp_seq2 fun K hK hQ=>?_
 conv=>whnf
 refine hK _ _ ?_;clear hK hQ K;refine awp_seq2 fun K hK hQ=>?_
 conv=>whnf
 intro c hc;conv=>whnf
 cases c with
 | true=>
   have hz:rows=[]:=by
    cases rows with
    | nil=>rfl
    | cons r rs=>exact absurd (hc (by simp)) (by simp)
   subst hz;conv=>whnf
   refine hQ _ _ _ (by simp) ?_
   clear hK hQ K;conv=>whnf
   exact⟨_,_,⟨rfl,rfl⟩,St.le_refl _,rfl⟩
 | false=>
   conv=>whnf
   refine hK _ _ ?_;clear hK hQ K hc;conv=>whnf
   intro b0 hb0;conv=>whnf
   refine⟨⟨St.upd_same _ _ _,?_⟩,?_⟩
   ·show(0+rows.length)*16≤_;omega
   conv=>whnf
   intro b1 hb1;rw[St.del_upd hb0] at hb1 ⊢;conv=>whnf
   exact⟨_,_,⟨rfl,rfl⟩,St.le_upd' (St.le_refl _) hb1 _,⟨rfl,rfl⟩⟩
theorem CloneI_own(rows:List (List AV))(hr:rows.length*8≤140737488355328)(S:St):Triple P (C G) 41 [.sl .any 1 rows] S fun o S'=>(o=.ret .nils∧rows=[]∧S'=S)∨∃ b,S b=none∧o=.ret (.sl (.own b) 1 rows)∧S'=S.upd b (.tip 3 1 rows.length):=by
 -- slices.Clone[[]int,int] function,1 k,3 the elements' type,8 bytes,exact⟨_,_,.inl ⟨rfl,rfl,rfl⟩,St.le_refl _,rfl⟩ the end where it is nothing,exact⟨_,_,.inr ⟨b1,hb1,rfl,congrArg (fun x=>S.upd b1 (.tip 3 1 x)) (Nat.zero_add _)⟩,St.le_refl _,AV.leS_refl _ _ _⟩ the end
 refine triple_of_awp (hT G) hm Tryz.func41 rfl (by decide +kernel) rfl (by decide +kernel) (by show 1≤_;decide +kernel) rfl ?_
 refine awp_seq2 fun K hK hQ=>?_
 conv=>whnf
 refine hK _ _ ?_;clear hK hQ K;refine awp_seq2 fun K hK hQ=>?_
 conv=>whnf
 intro c hc;conv=>whnf
 cases c with
 | true=>
   have hz:rows=[]:=by
    cases rows with
    | nil=>rfl
    | cons r rs=>exact absurd (hc (by simp)) (by simp)
   subst hz;conv=>whnf
   refine hQ _ _ _ (by simp) ?_
   clear hK hQ K;conv=>whnf
   exact⟨_,_,.inl ⟨rfl,rfl,rfl⟩,St.le_refl _,rfl⟩
 | false=>
   conv=>whnf
   refine hK _ _ ?_;clear hK hQ K hc;conv=>whnf
   intro b0 hb0;conv=>whnf
   refine⟨⟨St.upd_same _ _ _,?_⟩,?_⟩
   ·show(0+rows.length)*8≤_;omega
   conv=>whnf
   intro b1 hb1;rw[St.del_upd hb0] at hb1 ⊢;conv=>whnf
   exact⟨_,_,.inr ⟨b1,hb1,rfl,congrArg (fun x=>S.upd b1 (.tip 3 1 x)) (Nat.zero_add _)⟩,St.le_refl _,AV.leS_refl _ _ _⟩
def CloneW(e:TypeId)(k:Nat)(rows:List (List AV))(S:St)(o:Out)(S':St):Prop:=
 (o=.ret .nils∧rows=[]∧S'=S)∨∃ b cap junk,S b=none∧o=.ret (.arr b 0 rows.length cap)∧S'=S.upd b (.obj e (rows.flatten++junk))∧rows.length≤cap∧cap≤maxLen∧((∀ r∈rows,r.length=k)→cap*k≤(rows.flatten++junk).length)
def CloneWa(e:TypeId)(k:Nat)(rows:List (List AV))(S:St)(o:Out)(S':St):Prop:=
 (o=.ret (.sl .any k [])∧rows=[]∧S'=S)∨∃ b cap junk,S b=none∧o=.ret (.arr b 0 rows.length cap)∧S'=S.upd b (.obj e (rows.flatten++junk))∧rows.length≤cap∧cap≤maxLen∧((∀ r∈rows,r.length=k)→cap*k≤(rows.flatten++junk).length)
theorem mulL_len(k:Nat)(xs:List AV):∀ n,(mulL k xs n).length=n*xs.length
 | 0=>by simp[mulL]
 | n+1=>by rw[mulL,List.length_append,mulL_len k xs n,Nat.succ_mul];omega
theorem flatten_lenK{k:Nat}:∀ {l:List (List AV)},(∀ r∈l,r.length=k)→l.flatten.length=l.length*k
 | [],_=>by simp
 | r::l,h=>by rw[List.flatten_cons,List.length_append,h r (by simp),flatten_lenK fun x hx=>h x (by simp[hx]),List.length_cons,Nat.succ_mul];omega
theorem cloneW_len{k cap:Nat}{rows:List (List AV)}{z:List AV}(hk:∀ r∈rows,r.length=k)(hc:rows.length≤cap)(hz:z.length=k):cap*k≤(rows.flatten++mulL 0 z (cap-(0+rows.length))).length:=by
 rw[List.length_append,flatten_lenK hk,mulL_len,hz,← Nat.add_mul];exact Nat.le_of_eq (by congr 1;omega)
theorem CloneC_w(rows:List (List AV))(hr:rows.length*144≤140737488355328)(S:St):Triple P (C G) 40 [.sl .any 10 rows] S (CloneW 51 10 rows S):=by
 -- slices.Clone[[]hallmark/api.Con,hallmark/api.Con] function,10 k,51 the elements' type,144 bytes
 refine Triple.arr (triple_of_awp (C:=(C G).arr) (hT G) hm Tryz.func40 rfl (by decide +kernel) rfl (by decide +kernel) (by show 1≤_;decide +kernel) rfl ?_)
 refine awp_seq2 fun K hK hQ=>?_
 conv=>whnf
 refine hK _ _ ?_;clear hK hQ K;refine awp_seq2 fun K hK hQ=>?_
 conv=>whnf
 intro c hc;conv=>whnf
 cases c with
 | true=>
   have hz:rows=[]:=by
    cases rows with
    | nil=>rfl
    | cons r rs=>exact absurd (hc (by simp)) (by simp)
   subst hz;conv=>whnf
   refine hQ _ _ _ (by simp) ?_
   clear hK hQ K;conv=>whnf
   have hq:CloneW 51 10 [] S (.ret .nils) S:=.inl ⟨rfl,rfl,rfl⟩
   exact⟨_,_,hq,St.le_refl _,rfl⟩
 | false=>
   conv=>whnf
   refine hK _ _ ?_;clear hK hQ K hc;conv=>whnf
   refine⟨rfl,fun b0 hb0=>?_⟩
   conv=>whnf
   refine⟨[],St.upd_same _ _ _,⟨Nat.le_refl _,Nat.le_refl _,by simp[maxLen],by show(0+rows.length)*144≤_;omega⟩,split_of (fun hin=>?_) (fun hin=>?_)⟩
   ·have hin:=of_decide_eq_true hin
    have hz:rows=[]:=List.eq_nil_of_length_eq_zero (by omega)
    subst hz;conv=>whnf
    have hq:CloneW 51 10 [] S (.ret (.arr b0 0 0 0)) (S.upd b0 (.obj 51 [])):=.inr ⟨b0,0,[],hb0,rfl,rfl,Nat.le_refl _,Nat.zero_le _,fun _=>by simp⟩
    refine⟨_,_,hq,?_,AV.leS_refl _ _ _⟩;rw[St.upd_upd];exact St.le_refl _
   ·intro b2 cap2 hb2 hc1 hc2;conv=>whnf
    have hq:CloneW 51 10 rows S (.ret (.arr b2 0 rows.length cap2)) (S.upd b2 (.obj 51 (rows.flatten++mulL 0 (cellsOf (ofV ((C G).arr.T 51).zero)) (cap2-(0+rows.length))))):=.inr ⟨b2,cap2,_,St.no hb2,rfl,rfl,by omega,hc2,fun hk=>cloneW_len hk (by omega) rfl⟩
    refine⟨_,_,hq,?_,?_⟩
    ·intro x o hx
     by_cases h:x=b2
     ·subst h;rw[St.upd_same] at hx ⊢;exact hx
     ·rw[St.upd_ne _ _ _ _ h] at hx ⊢;have h0:x≠b0:=fun e=>by rw[e,hb0] at hx;cases hx
      rw[St.upd_ne _ _ _ _ h0];exact hx
    ·show AV.arr b2 0 (0+rows.length) cap2=_
     rw[Nat.zero_add]
theorem CloneL_s(rows:List (List AV))(hr:rows.length*24≤140737488355328)(S:St):Triple P (C G) 42 [.sl .any 1 rows] S (CloneW 27 1 rows S):=by
 -- slices.Clone[[][]int,[]int] function,1 k,27 the elements' type,24 bytes
 refine Triple.arr (triple_of_awp (C:=(C G).arr) (hT G) hm Tryz.func42 rfl (by decide +kernel) rfl (by decide +kernel) (by show 1≤_;decide +kernel) rfl ?_)
 refine awp_seq2 fun K hK hQ=>?_
 conv=>whnf
 refine hK _ _ ?_;clear hK hQ K;refine awp_seq2 fun K hK hQ=>?_
 conv=>whnf
 intro c hc;conv=>whnf
 cases c with
 | true=>
   have hz:rows=[]:=by
    cases rows with
    | nil=>rfl
    | cons r rs=>exact absurd (hc (by simp)) (by simp)
   subst hz;conv=>whnf
   refine hQ _ _ _ (by simp) ?_
   clear hK hQ K;conv=>whnf
   have hq:CloneW 27 1 [] S (.ret .nils) S:=.inl ⟨rfl,rfl,rfl⟩
   exact⟨_,_,hq,St.le_refl _,rfl⟩
 | false=>
   conv=>whnf
   refine hK _ _ ?_;clear hK hQ K hc;conv=>whnf
   refine⟨rfl,fun b0 hb0=>?_⟩
   conv=>whnf
   refine⟨[],St.upd_same _ _ _,⟨Nat.le_refl _,Nat.le_refl _,by simp[maxLen],by show(0+rows.length)*24≤_;omega⟩,split_of (fun hin=>?_) (fun hin=>?_)⟩
   ·have hin:=of_decide_eq_true hin
    have hz:rows=[]:=List.eq_nil_of_length_eq_zero (by omega)
    subst hz;conv=>whnf
    have hq:CloneW 27 1 [] S (.ret (.arr b0 0 0 0)) (S.upd b0 (.obj 27 [])):=.inr ⟨b0,0,[],hb0,rfl,rfl,Nat.le_refl _,Nat.zero_le _,fun _=>by simp⟩
    refine⟨_,_,hq,?_,AV.leS_refl _ _ _⟩;rw[St.upd_upd];exact St.le_refl _
   ·intro b2 cap2 hb2 hc1 hc2;conv=>whnf
    have hq:CloneW 27 1 rows S (.ret (.arr b2 0 rows.length cap2)) (S.upd b2 (.obj 27 (rows.flatten++mulL 0 (cellsOf (ofV ((C G).arr.T 27).zero)) (cap2-(0+rows.length))))):=.inr ⟨b2,cap2,_,St.no hb2,rfl,rfl,by omega,hc2,fun hk=>cloneW_len hk (by omega) rfl⟩
    refine⟨_,_,hq,?_,?_⟩
    ·intro x o hx
     by_cases h:x=b2
     ·subst h;rw[St.upd_same] at hx ⊢;exact hx
     ·rw[St.upd_ne _ _ _ _ h] at hx ⊢;have h0:x≠b0:=fun e=>by rw[e,hb0] at hx;cases hx
      rw[St.upd_ne _ _ _ _ h0];exact hx
    ·show AV.arr b2 0 (0+rows.length) cap2=_
     rw[Nat.zero_add]
theorem CloneL_w(rows:List (List AV))(hr:rows.length*24≤140737488355328)(S:St):Triple P (C G) 42 [.sl .any 1 rows] S (CloneWa 27 1 rows S):=
 (CloneL_s rows hr S).lessen fun o S' h=>by
   rcases h with ⟨rfl,h1,h2⟩ | h
   ·exact⟨.ret (.sl .any 1 []),S',.inl ⟨rfl,h1,h2⟩,St.le_refl _,rfl⟩
   ·obtain⟨b,cap,junk,h1,rfl,h2⟩:=h;exact⟨_,S',.inr ⟨b,cap,junk,h1,rfl,h2⟩,St.le_refl _,AV.leS_refl _ _ _⟩
end Go.Proofs.YtjpboanohpaibaaGreatDoor.Aw

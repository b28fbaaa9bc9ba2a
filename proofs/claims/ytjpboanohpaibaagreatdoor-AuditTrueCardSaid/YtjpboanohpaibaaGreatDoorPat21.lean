/- A number of 64 bits. The entry of a law's walk where it is handed lists: what an argument reads as, in the abstract walk -/
import Derived.Test.YtjpboanohpaibaaGreatDoorPat1
import Derived.Test.YtjpboanohpaibaaGreatDoorPat20
import Derived.ProofKit
import Derived.OpenShut
import Derived.Test.YtjpboanohpaibaaGreatDoorPat12
import Derived.SizedLaws
import Derived.Test.YtjpboanohpaibaaGreatDoorPat15
import Derived.Test.YtjpboanohpaibaaGreatDoorPat18
import Derived.Test.YtjpboanohpaibaaGreatDoorPat19
set_option linter.all false
namespace Go.Proofs.YtjpboanohpaibaaGreatDoor.Aw
def okI(z:Int):Prop:=-9223372036854775808≤z∧z≤9223372036854775807
set_option maxRecDepth 100000
open Go Go.RowKit
section
variable {H:Type} {enc:TypeId×Value→H} {W:World}
def Opens(enc:TypeId×Value→H)(W:World)(t:TypeId){α:Type}(row:α→List AV)(Q:α→Prop):Prop:=
 ∀ (fuel:Nat) (cs:List Value) (x:DataW H×List MemPlace),DataW.trod enc Tryz.prog W 0 (fun _=>true) true fuel t cs=some x→∃ a:α,RelL W (rdOf St.emp) (row a) cs∧(∀ u∈cs,u.oneCell'=true)∧Q a
theorem opens_int:Opens enc W 3 (fun n:Int=>[.int .i64 n]) okI:=fun fuel cs x h=>by
 obtain⟨n,rfl,_,hw⟩:=DataW.trod_int Tryz.underlying3 h;refine⟨n,by simp only[RelL,Rel];exact⟨_,_,rfl,rfl,rfl⟩,fun u hu=>?_,?_⟩
 ·obtain rfl:u=.int .i64 n:=by simpa using hu
  rfl
 ·simp only[Lit.wf,Bool.and_eq_true,decide_eq_true_eq] at hw;exact hw
theorem cells_at{k:Nat}{a:Addr}{cs:List Value}(h:W.cells? 0 a k=some cs):cs.length=k∧∀ j,j<k→W.cell? (a.add j)=cs[j]?:=by
 unfold World.cells? at h;rw[if_pos (Nat.zero_le _)] at h;refine⟨by simpa using mapM_some_length h,fun j hj=>mapM_some_get h j j (by simp[hj])⟩
theorem exists_list{β:Type}{R:Nat→β→Prop}:∀ n:Nat,(∀ i,i<n→∃ b,R i b)→∃ l:List β,l.length=n∧∀ i b,l[i]? = some b→R i b
 | 0,_=>⟨[],rfl,fun i b h=>by simp at h⟩
 | n+1,h=>by
   obtain⟨l,hl,hr⟩:=exists_list n fun i hi=>h i (by omega)
   obtain⟨b,hb⟩:=h n (by omega)
   refine⟨l++[b],by simp[hl],fun i c hc=>?_⟩
   by_cases hi:i<l.length
   ·rw[List.getElem?_append_left hi] at hc;exact hr i c hc
   ·rw[List.getElem?_append_right (by omega)] at hc
    have:i=n:=by
     by_cases e:i-l.length=0
     ·omega
     ·rw[List.getElem?_eq_none (by simp;omega)] at hc;cases hc
    subst this;rw[hl,Nat.sub_self] at hc
    cases hc
    exact hb
theorem rows_of{α:Type}{row:α→List AV}{k b:Nat}:∀ (L:List (α×List Value)) (off:Nat),
 (∀ i p,L[i]? = some p→(∀ j,j<k→W.cell? ⟨b,off+i*k+j,none⟩=p.2[j]?)∧p.2.length=k∧(row p.1).length=k∧RelL W (rdOf St.emp) (row p.1) p.2∧∀ u∈p.2,u.oneCell'=true)→
 RelRows W (rdOf St.emp) k b off (L.map fun p=>row p.1)
 | [],off,h=>by simp[RelRows]
 | p::L,off,h=>by
   simp only[List.map_cons,RelRows];obtain⟨h1,h2,h3,h4,h5⟩:=h 0 p rfl;refine⟨⟨h3,RelAt.of_cells h4 (fun i v hv=>?_) h5 fun i hi=>trivial⟩,rows_of L (off+k) fun i q hq=>?_⟩
   ·have hi:i<k:=by
     rcases Nat.lt_or_ge i k with h | h
     ·exact h
     ·rw[List.getElem?_eq_none (by omega)] at hv;cases hv
    have:=h1 i hi
    rw[hv] at this
    simpa using this
   ·obtain⟨g1,g2,g3,g4,g5⟩:=h (i+1) q (by simpa using hq)
    refine⟨fun j hj=>?_,g2,g3,g4,g5⟩
    have:=g1 j hj
    rw[show off+(i+1)*k+j=off+k+i*k+j by rw[Nat.succ_mul];omega] at this
    exact this
theorem spot_none{a:Addr}{v:Value}(h:W.cell? a=some v):a=⟨a.block,a.off,none⟩:=by
 obtain⟨b,off,sp⟩:=a;unfold World.cell? at h;dsimp only at h
 split at h
 ·cases sp with
  | none=>rfl
  | some s=>simp at h
 ·cases h
end
section
variable {H:Type} {enc:TypeId×Value→H} {W:World}
def OpensW(enc:TypeId×Value→H)(W:World)(t:TypeId){α:Type}(row:α→List AV)(Q:α→Prop):Prop:=
 ∀ (fuel:Nat) (cs:List Value) (x:DataW H×List MemPlace),DataW.trod enc Tryz.prog W 0 (fun _=>true) true fuel t cs=some x→(∀ n∈x.1.weights Tryz.prog t,n≤reachBytes)→∃ a:α,RelL W (rdOf St.emp) (row a) cs∧(∀ u∈cs,u.oneCell'=true)∧Q a
theorem Opens.w{t:TypeId}{α:Type}{row:α→List AV}{Q:α→Prop}(h:Opens enc W t row Q):OpensW enc W t row Q:=fun f c x hx _=>h f c x hx
theorem OpensW.mono{t:TypeId}{α:Type}{row:α→List AV}{Q Q':α→Prop}(h:OpensW enc W t row Q)(hq:∀ a,Q a→Q' a):OpensW enc W t row Q':=fun f c x hx hw=>by
 obtain⟨a,h1,h2,h3⟩:=h f c x hx hw;exact⟨a,h1,h2,hq _ h3⟩
theorem weightsAll_mem{e:TypeId}:∀ {l:List (DataW H)} {d:DataW H},d∈l→∀ n∈d.weights Tryz.prog e,n∈DataW.weightsAll Tryz.prog e l
 | x::l,d,hd,n,hn=>by
   simp only[DataW.weightsAll,List.mem_append]
   rcases List.mem_cons.1 hd with rfl | hd
   ·exact .inl hn
   ·exact .inr (weightsAll_mem hd n hn)
theorem opensW_slice{t e:TypeId}{k kb:Nat}{α:Type}{row:α→List AV}{Q:α→Prop}(ht:Tryz.prog.underlying t=some (.slice e))(hc:Tryz.prog.cellsOf e=k)(hb:Tryz.prog.bytesOf e=kb)(hk:0<k)(hrow:∀ a,(row a).length=k)(h:OpensW enc W e row Q) :
 OpensW enc W t (fun l:List α=>[.sl .any k (l.map row)]) (fun l=>(∀ a∈l,Q a)∧l.length≤maxLen∧l.length*kb≤reachBytes):=fun fuel cs x hx hwt=>by
 rcases DataW.trod_slice ht hx with ⟨rfl,_⟩ | ⟨a,len,cap,elems,rest,n,_,rfl,hxe,_,hlc,hcm,hel,helem,hsp,_⟩
 ·refine⟨[],?_,fun u hu=>?_,by simp,by simp,by simp⟩
  ·simp only[RelL,Rel];exact⟨_,_,rfl,.inl ⟨rfl,rfl,.inl rfl⟩,rfl⟩
  ·obtain rfl:u=.slice none 0 0:=by simpa using hu
   rfl
 ·have hwt2:∀ n∈(DataW.slice (elems.map (·.1)) (rest.map (·.1))).weights Tryz.prog t,n≤reachBytes:=by rw[hxe] at hwt;exact hwt
  simp only[DataW.weights,ht] at hwt2;have hbytes:len*kb≤reachBytes:=by
   have:=hwt2 _ (List.mem_cons_self ..)
   rw[hb,List.length_map,hel] at this;exact Nat.le_trans (Nat.mul_le_mul_right _ (Nat.le_add_right _ _)) this
  have hwe:∀ d∈elems,∀ n∈d.1.weights Tryz.prog e,n≤reachBytes:=fun d hd n hn=>hwt2 n (List.mem_cons_of_mem _ (List.mem_append_left _ (weightsAll_mem (List.mem_map.2 ⟨d,hd,rfl⟩) n hn)))
  rw[hc] at helem hsp;have hone:∀ u∈[Value.slice (some a) len cap],u.oneCell'=true:=fun u hu=>by
   obtain rfl:u=.slice (some a) len cap:=by simpa using hu
   rfl
  have hspot:0<cap→a=⟨a.block,a.off,none⟩:=fun hcap=>by
   have hfirst:∃ cs y,W.cells? 0 (a.add 0) k=some cs∧DataW.trod enc Tryz.prog W 0 (fun _=>true) true n e cs=some y:=by
    by_cases hl:0<len
    ·have:=helem 0 hl
     rw[List.getElem?_eq_getElem (by omega),Option.bind_eq_some_iff] at this
     obtain⟨cs,h1,h2⟩:=this;exact⟨cs,_,by simpa using h1,h2⟩
    ·obtain⟨r1,r2⟩:=hsp rfl;have:=r2 0 (by omega)
     rw[List.getElem?_eq_getElem (by omega),Option.bind_eq_some_iff] at this
     obtain⟨cs,h1,h2⟩:=this;exact⟨cs,_,by simpa [show len=0 by omega] using h1,h2⟩
   obtain⟨cs,y,h1,_⟩:=hfirst;obtain⟨c1,c2⟩:=cells_at h1;have:=c2 0 hk;rw[List.getElem?_eq_getElem (by omega)] at this
   exact spot_none (by simpa [Addr.add] using this)
  by_cases hcap:cap=0
  ·have hlen:len=0:=by omega
   subst hcap hlen;refine⟨[],?_,hone,by simp,by simp,by simp⟩
   simp only[RelL,Rel];exact⟨_,_,rfl,.inl ⟨rfl,rfl,.inr ⟨rfl,a,rfl⟩⟩,rfl⟩
  ·have hs:=hspot (by omega)
   obtain⟨b,off,sp⟩:=a;simp only[Addr.mk.injEq,true_and] at hs;subst hs;obtain⟨L,hL,hR⟩:=exists_list (β:=α×List Value) (R:=fun i p=>W.cells? 0 ((⟨b,off,none⟩:Addr).add (i*k)) k=some p.2∧RelL W (rdOf St.emp) (row p.1) p.2∧(∀ u∈p.2,u.oneCell'=true)∧Q p.1) len fun i hi=>by
    have:=helem i hi
    rw[List.getElem?_eq_getElem (by omega),Option.bind_eq_some_iff] at this
    obtain⟨cs,h1,h2⟩:=this;obtain⟨a,a1,a2,a3⟩:=h _ _ _ h2 (hwe _ (List.getElem_mem _));exact⟨(a,cs),h1,a1,a2,a3⟩
   refine⟨L.map (·.1),?_,hone,⟨fun x hx=>?_,by rw[List.length_map];omega,by rw[List.length_map,hL];exact hbytes⟩⟩
   ·simp only[RelL,Rel];refine⟨_,_,rfl,.inr ⟨b,off,cap,by simp[hL],by simpa [hL] using hlc,hcm,trivial,?_⟩,rfl⟩
    rw[List.map_map];refine rows_of L off fun i p hp=>?_
    obtain⟨r1,r2,r3,r4⟩:=hR i p hp;obtain⟨c1,c2⟩:=cells_at r1;refine⟨fun j hj=>?_,c1,hrow _,r2,r3⟩
    have:=c2 j hj
    rw[Addr.add_lit,Addr.add_lit] at this;exact this
   ·obtain⟨p,hp,rfl⟩:=List.mem_map.1 hx;obtain⟨i,hi⟩:=List.getElem?_of_mem hp;exact(hR i p hi).2.2.2
theorem opensW_field{t:TypeId}{fs:Array Field}{n:Nat}{cs:List Value}{xs:List (DataW H×List MemPlace)}(ht:Tryz.prog.underlying t=some (.struct fs))(hw:∀ n∈(DataW.agg (xs.map (·.1)):DataW H).weights Tryz.prog t,n≤reachBytes)
 (hf:∀ (i:Nat) (f:Field),fs[i]? = some f→DataW.trod enc Tryz.prog W 0 (fun _=>true) true n f.type ((cs.drop f.offset).take (Tryz.prog.cellsOf f.type))=xs[i]?)
 (i:Nat) (f:Field) (hfi:fs[i]? = some f) (hi:i<xs.length) {k:Nat} (hk:Tryz.prog.cellsOf f.type=k) {α:Type} {row:α→List AV} {Q:α→Prop} (ho:OpensW enc W f.type row Q) :
 ∃ a,RelL W (rdOf St.emp) (row a) ((cs.drop f.offset).take k)∧(∀ u∈(cs.drop f.offset).take k,u.oneCell'=true)∧Q a:=by
 have h1:=hf i f hfi
 rw[hk,List.getElem?_eq_getElem hi] at h1;refine ho _ _ _ h1 fun m hm=>hw m ?_
 simp only[DataW.weights,ht];refine DataW.weights_mem_each (j:=i) (t:=f.type) (d:=(xs[i]).1) ?_ ?_ m hm
 ·rw[List.getElem?_map,Array.getElem?_toList,hfi];rfl
 ·rw[List.getElem?_map,List.getElem?_eq_getElem hi];rfl
def QI(l:List Int):Prop:=(∀ a∈l,okI a)∧l.length≤maxLen∧l.length*8≤reachBytes
theorem opensW_ints:OpensW enc W 27 (fun l:List Int=>[.sl .any 1 (rowsI l)]) QI:=
 opensW_slice Tryz.underlying27 (by kernel_rfl) (by kernel_rfl) (by decide) (fun _=>rfl) opens_int.w
theorem opensW_lists:OpensW enc W 30 (fun l:List (List Int)=>[.sl .any 1 (rowsLL l)]) (fun l=>(∀ a∈l,QI a)∧l.length≤maxLen∧l.length*24≤reachBytes):=
 opensW_slice Tryz.underlying30 (by kernel_rfl) (by kernel_rfl) (by decide) (fun _=>rfl) opensW_ints
def QT(t:TermV):Prop:=okI t.1∧okI t.2
theorem opensW_term:OpensW enc W 67 (fun t:TermV=>[.int .i64 t.1,.int .i64 t.2]) QT:=fun fuel cs x h hwt=>by
 obtain⟨xs,n,_,hxe,hl,hxs,hf⟩:=DataW.trod_struct Tryz.underlying67 h;rw[hxe] at hwt;have hl:cs.length=2:=hl.trans (by kernel_rfl)
 have hxs:xs.length=2:=hxs
 match cs,hl with
 | [c0,c1],_=>
  obtain⟨z0,a1,a2,a3⟩:=opensW_field Tryz.underlying67 hwt hf 0 _ rfl (by omega) (k:=1) (by kernel_rfl) opens_int.w
  obtain⟨z1,b1,b2,b3⟩:=opensW_field Tryz.underlying67 hwt hf 1 _ rfl (by omega) (k:=1) (by kernel_rfl) opens_int.w
  refine⟨(z0,z1),RelL.append a1 b1,fun u hu=>?_,a3,b3⟩
  simp only[List.mem_cons,List.not_mem_nil,or_false] at hu
  rcases hu with rfl | rfl
  ·exact a2 _ (List.mem_singleton.2 rfl)
  ·exact b2 _ (List.mem_singleton.2 rfl)
def QTs(l:List TermV):Prop:=(∀ a∈l,QT a)∧l.length≤maxLen∧l.length*16≤reachBytes
theorem opensW_terms:OpensW enc W 24 (fun l:List TermV=>[.sl .any 2 (rowsTm l)]) QTs:=
 opensW_slice Tryz.underlying24 (by kernel_rfl) (by kernel_rfl) (by decide) (fun _=>rfl) opensW_term
theorem opensW_str:OpensW enc W 9 (fun s:ByteArray=>[.str s]) (fun s=>s.size≤reachBytes):=fun fuel cs x h hw=>by
 obtain⟨s,rfl,hx,hs⟩:=DataW.trod_string Tryz.underlying9 h;refine⟨s,by simp only[RelL,Rel];exact⟨_,_,rfl,rfl,rfl⟩,fun u hu=>?_,?_⟩
 ·obtain rfl:u=.string s:=by simpa using hu
  rfl
 ·rw[hx] at hw;exact hw s.size (by simp[DataW.weights])
def QV(v:VarV):Prop:=v.1.size≤reachBytes∧okI v.2.1∧okI v.2.2
theorem opensW_var:OpensW enc W 49 rowV QV:=fun fuel cs x h hwt=>by
 obtain⟨xs,n,_,hxe,hl,hxs,hf⟩:=DataW.trod_struct Tryz.underlying49 h;rw[hxe] at hwt;have hl:cs.length=3:=hl.trans (by kernel_rfl)
 have hxs:xs.length=3:=hxs
 match cs,hl with
 | [c0,c1,c2],_=>
  obtain⟨z0,a1,a2,a3⟩:=opensW_field Tryz.underlying49 hwt hf 0 _ rfl (by omega) (k:=1) (by kernel_rfl) opensW_str
  obtain⟨z1,b1,b2,b3⟩:=opensW_field Tryz.underlying49 hwt hf 1 _ rfl (by omega) (k:=1) (by kernel_rfl) opens_int.w
  obtain⟨z2,d1,d2,d3⟩:=opensW_field Tryz.underlying49 hwt hf 2 _ rfl (by omega) (k:=1) (by kernel_rfl) opens_int.w
  refine⟨(z0,z1,z2),RelL.append a1 (RelL.append b1 d1),fun u hu=>?_,a3,b3,d3⟩
  simp only[List.mem_cons,List.not_mem_nil,or_false] at hu
  rcases hu with rfl | rfl | rfl
  ·exact a2 _ (List.mem_singleton.2 rfl)
  ·exact b2 _ (List.mem_singleton.2 rfl)
  ·exact d2 _ (List.mem_singleton.2 rfl)
def QVs(l:List VarV):Prop:=(∀ a∈l,QV a)∧l.length≤maxLen∧l.length*32≤reachBytes
theorem opensW_vars:OpensW enc W 22 (fun l:List VarV=>[.sl .any 3 (rowsV l)]) QVs:=
 opensW_slice Tryz.underlying22 (by kernel_rfl) (by kernel_rfl) (by decide) (fun _=>rfl) opensW_var
structure QC (c:ConV):Prop where
 i:okI c.kind∧okI c.op∧okI c.k∧okI c.v∧okI c.x∧okI c.y
 t:QTs c.terms
 xs:QI c.xs
 tb:QI c.table
 rw:(∀ a∈c.rows,QI a)∧c.rows.length≤maxLen∧c.rows.length*24≤reachBytes
theorem opensW_con:OpensW enc W 51 rowC QC:=fun fuel cs x h hwt=>by
 obtain⟨xs,n,_,hxe,hl,hxs,hf⟩:=DataW.trod_struct Tryz.underlying51 h;rw[hxe] at hwt;have hl:cs.length=10:=hl.trans (by kernel_rfl)
 have hxs:xs.length=10:=hxs
 match cs,hl with
 | [c0,c1,c2,c3,c4,c5,c6,c7,c8,c9],_=>
  obtain⟨z0,a1,a2,a3⟩:=opensW_field Tryz.underlying51 hwt hf 0 _ rfl (by omega) (k:=1) (by kernel_rfl) opens_int.w
  obtain⟨z1,b1,b2,b3⟩:=opensW_field Tryz.underlying51 hwt hf 1 _ rfl (by omega) (k:=1) (by kernel_rfl) opens_int.w
  obtain⟨z2,d1,d2,d3⟩:=opensW_field Tryz.underlying51 hwt hf 2 _ rfl (by omega) (k:=1) (by kernel_rfl) opensW_terms
  obtain⟨z3,e1,e2,e3⟩:=opensW_field Tryz.underlying51 hwt hf 3 _ rfl (by omega) (k:=1) (by kernel_rfl) opens_int.w
  obtain⟨z4,f1,f2,f3⟩:=opensW_field Tryz.underlying51 hwt hf 4 _ rfl (by omega) (k:=1) (by kernel_rfl) opens_int.w
  obtain⟨z5,g1,g2,g3⟩:=opensW_field Tryz.underlying51 hwt hf 5 _ rfl (by omega) (k:=1) (by kernel_rfl) opens_int.w
  obtain⟨z6,i1,i2,i3⟩:=opensW_field Tryz.underlying51 hwt hf 6 _ rfl (by omega) (k:=1) (by kernel_rfl) opens_int.w
  obtain⟨z7,j1,j2,j3⟩:=opensW_field Tryz.underlying51 hwt hf 7 _ rfl (by omega) (k:=1) (by kernel_rfl) opensW_ints
  obtain⟨z8,k1,k2,k3⟩:=opensW_field Tryz.underlying51 hwt hf 8 _ rfl (by omega) (k:=1) (by kernel_rfl) opensW_ints
  obtain⟨z9,l1,l2,l3⟩:=opensW_field Tryz.underlying51 hwt hf 9 _ rfl (by omega) (k:=1) (by kernel_rfl) opensW_lists
  refine⟨⟨z0,z1,z2,z3,z4,z5,z6,z7,z8,z9⟩,RelL.append a1 (RelL.append b1 (RelL.append d1 (RelL.append e1 (RelL.append f1 (RelL.append g1 (RelL.append i1 (RelL.append j1 (RelL.append k1 l1)))))))),fun u hu=>?_,⟨⟨a3,b3,e3,f3,g3,i3⟩,d3,j3,k3,l3⟩⟩
  simp only[List.mem_cons,List.not_mem_nil,or_false] at hu
  rcases hu with rfl | rfl | rfl | rfl | rfl | rfl | rfl | rfl | rfl | rfl
  ·exact a2 _ (List.mem_singleton.2 rfl)
  ·exact b2 _ (List.mem_singleton.2 rfl)
  ·exact d2 _ (List.mem_singleton.2 rfl)
  ·exact e2 _ (List.mem_singleton.2 rfl)
  ·exact f2 _ (List.mem_singleton.2 rfl)
  ·exact g2 _ (List.mem_singleton.2 rfl)
  ·exact i2 _ (List.mem_singleton.2 rfl)
  ·exact j2 _ (List.mem_singleton.2 rfl)
  ·exact k2 _ (List.mem_singleton.2 rfl)
  ·exact l2 _ (List.mem_singleton.2 rfl)
def QCs(l:List ConV):Prop:=(∀ a∈l,QC a)∧l.length≤maxLen∧l.length*144≤reachBytes
theorem opensW_cons:OpensW enc W 23 (fun l:List ConV=>[.sl .any 10 (rowsC l)]) QCs:=
 opensW_slice Tryz.underlying23 (by kernel_rfl) (by kernel_rfl) (by decide) (fun _=>rfl) opensW_con
structure QM (m:ModelV):Prop where
 v:QVs m.vars
 c:QCs m.cons
 g:QTs m.goal
theorem opensW_bool:OpensW enc W 4 (fun b:Bool=>[.bool b]) (fun _=>True):=fun fuel cs x h _=>by
 obtain⟨s,rfl,_⟩:=DataW.trod_bool Tryz.underlying4 h;refine⟨s,by simp only[RelL,Rel];exact⟨_,_,rfl,rfl,rfl⟩,fun u hu=>?_,trivial⟩
 obtain rfl:u=.bool s:=by simpa using hu
 rfl
theorem opensW_model:OpensW enc W 26 rowM QM:=fun fuel cs x h hwt=>by
 obtain⟨xs,n,_,hxe,hl,hxs,hf⟩:=DataW.trod_struct Tryz.underlying26 h;rw[hxe] at hwt;have hl:cs.length=4:=hl.trans (by kernel_rfl)
 have hxs:xs.length=4:=hxs
 match cs,hl with
 | [c0,c1,c2,c3],_=>
  obtain⟨z0,a1,a2,a3⟩:=opensW_field Tryz.underlying26 hwt hf 0 _ rfl (by omega) (k:=1) (by kernel_rfl) opensW_vars
  obtain⟨z1,b1,b2,b3⟩:=opensW_field Tryz.underlying26 hwt hf 1 _ rfl (by omega) (k:=1) (by kernel_rfl) opensW_cons
  obtain⟨z2,d1,d2,d3⟩:=opensW_field Tryz.underlying26 hwt hf 2 _ rfl (by omega) (k:=1) (by kernel_rfl) opensW_bool
  obtain⟨z3,e1,e2,e3⟩:=opensW_field Tryz.underlying26 hwt hf 3 _ rfl (by omega) (k:=1) (by kernel_rfl) opensW_terms
  refine⟨⟨z0,z1,z2,z3⟩,RelL.append a1 (RelL.append b1 (RelL.append d1 e1)),fun u hu=>?_,⟨a3,b3,e3⟩⟩
  simp only[List.mem_cons,List.not_mem_nil,or_false] at hu
  rcases hu with rfl | rfl | rfl | rfl
  ·exact a2 _ (List.mem_singleton.2 rfl)
  ·exact b2 _ (List.mem_singleton.2 rfl)
  ·exact d2 _ (List.mem_singleton.2 rfl)
  ·exact e2 _ (List.mem_singleton.2 rfl)
theorem QM.szc{m:ModelV}(h:QM m):SzC m:=
 have hr:reachBytes≤140737488355328:=by decide
 ⟨Nat.le_trans h.v.2.2 hr,Nat.le_trans h.c.2.2 hr,Nat.le_trans h.g.2.2 hr,fun c hc=>⟨Nat.le_trans (h.c.1 c hc).t.2.2 hr,Nat.le_trans (h.c.1 c hc).xs.2.2 hr,Nat.le_trans (h.c.1 c hc).tb.2.2 hr,Nat.le_trans (h.c.1 c hc).rw.2.2 hr,fun r hrr=>Nat.le_trans ((h.c.1 c hc).rw.1 r hrr).2.2 hr⟩⟩
theorem open_model{b0:Nat}{v:Value}{d:DataW H}{ps:List MemPlace}(hval:Value.okWide Tryz.prog W .any b0 26 v)(hd:DataW.Trod enc Tryz.prog W 0 (fun _=>true) true 26 v d ps)(hw:∀ n∈d.weights Tryz.prog 26,n≤reachBytes) :
 ∃ m:ModelV,Rel W (rdOf St.emp) (.ag (rowM m)) v∧QM m:=by
 obtain⟨cs,rfl,_⟩:=Go.WideShapes.okWide_struct Tryz.underlying26 hval;obtain⟨fuel,hf⟩:=hd;obtain⟨m,h1,h2,h3⟩:=opensW_model _ _ _ hf hw;exact⟨m,by simp only[Rel];exact⟨cs,rfl,h1,h2⟩,h3⟩
theorem open_ints{b0:Nat}{v:Value}{d:DataW H}{ps:List MemPlace}(hval:Value.okWide Tryz.prog W .any b0 27 v)(hd:DataW.Trod enc Tryz.prog W 0 (fun _=>true) true 27 v d ps)(hw:∀ n∈d.weights Tryz.prog 27,n≤reachBytes) :
 ∃ l:List Int,Rel W (rdOf St.emp) (.sl .any 1 (rowsI l)) v∧QI l:=by
 obtain⟨a,len,cap,rfl⟩:=Go.WideShapes.okWide_slice Tryz.underlying27 hval;obtain⟨fuel,hf⟩:=hd;obtain⟨l,h1,_,h3⟩:=opensW_ints _ _ _ hf hw;refine⟨l,?_,h3⟩;have e:(Value.slice a len cap).cells.toList=[Value.slice a len cap]:=rfl;rw[e] at h1;simp only[RelL] at h1;obtain⟨u,us,h4,h5,_⟩:=h1;obtain⟨rfl,_⟩:=List.cons.inj h4;exact h5
end
set_option maxHeartbeats 8000000
variable {G:Nat→Option (List AV)}
theorem sameVerdict_self(v:VerV)(hl:v.vals.length≤1000000000)(S:St):Triple P (C G) 14 [.ag (rowVd v),.ag (rowVd v)] S fun o S'=>o=.ret (.bool true)∧S'=S:=by
 have h:=sameVerdict_ok (G:=G) v v hl S
 simpa using h
theorem lawTrue21_ok{mx:Int}(hM:G 1=some [.int .i64 mx])(hG:GS G)(hA:GAs G)(m:ModelV)(a:List Int)(hq:QM m)(hqa:QI a)(S:St) :
 Triple P (C G) 3 [.ag (rowM m),.sl .any 1 (rowsI a)] S fun o S'=>o=.ret (.bool true)∧S'=S:=by
 have hrb:reachBytes≤140737488351232:=by decide
 have hz:=hq.szc
 have hkn:=fun S=>known21_ok (G:=G) hM hG hA S
 have hfw:=fun S=>few_t (G:=G) m hz (fun v hv=>by have:=(hq.v.1 v hv).1;omega) S
 have hk:Know G m (conG m) holdsG:=know_of_fit hz (by have:=hz.v;omega)
 have hlim:(solsA m (conG m) holdsG).length≤100000:=by
  cases h:(productV m (conG m) 100000).2 with
  | true=>exact sols_le h
  | false=>unfold solsA;rw[if_neg (by rw[h];decide)];decide
 have hso:=fun S=>Solutions_ok (G:=G) hk.c S
 have hgi:=fun(S:St) (b:Nat) (h:S b=some (.obj 26 (rowM m)))=>given_ok (G:=G) hk hlim (S:=S) (b:=b) h
 have hct:=fun S=>Count_ok (G:=G) hk S
 have han:=fun S=>Answer_ok (G:=G) hk S
 have hal:=fun S=>All_ok (G:=G) hk S
 have hal2:=hqa.2.2
 have hsol:∀ z:List Int,z.length*8≤reachBytes→∀ S,Triple P (C G) 15 [.ag (rowM m),.sl .any 1 (rowsI z)] S fun o S'=>o=.ret (.bool (solK m (conG m) holdsG z))∧S'=S:=fun z hzl S=>
  Solution_ok (G:=G) hk.z hk.con z (by omega) (fun h0 hl=>hk.holds h0 z hl) S
 have hwo:∀ z:List Int,z.length*8≤reachBytes→∀ S,Triple P (C G) 17 [.ag (rowM m),.sl .any 1 (rowsI z)] S fun o S'=>o=.ret (.int .i64 (worthV m (conG m) z))∧S'=S:=fun z hzl S=>
  Worth_ok (G:=G) hk.z hk.con z (by omega) S
 have hzl:∀ z∈solsA m (conG m) holdsG,z.length≤32:=fun z hzm=>by
  unfold solsA at hzm
  split at hzm
  ·rename_i hp
   have hv:=right_vars (count_zero hp)
   unfold solsF at hzm;obtain⟨q,rfl,hq2⟩:=(mem_allFrom _ _ _).1 (List.mem_filter.1 hzm).1;have:=inB_len hq2;simp only[List.nil_append,List.length_nil,List.drop_zero] at *;omega
  ·cases hzm
 have hrb2:256≤reachBytes:=by decide
 have hmem:=fun h z=>sols_mem (m:=m) (conF:=conG m) (holdsF:=holdsG) h z
 have hrise:=sols_rise (m:=m) (conF:=conG m) (holdsF:=holdsG)
 have hans:=fun h=>ans_ok (m:=m) (conF:=conG m) (holdsF:=holdsG) h
 have han2:(answerV m (conG m) holdsG).2=(productV m (conG m) 100000).2:=by unfold answerV;cases (productV m (conG m) 100000).2<;>rfl
 have han0:(productV m (conG m) 100000).2=false→(answerV m (conG m) holdsG).1=vd0 0:=fun h=>by unfold answerV;rw[if_neg (by rw[h];decide)]
 have hal0:(allV m (conG m) holdsG).2=(productV m (conG m) 100000).2:=by unfold allV;cases (productV m (conG m) 100000).2<;>rfl
 have hal1:(productV m (conG m) 100000).2=true→(allV m (conG m) holdsG).1=⟨6,0,IntKind.i64.wrap ((solsA m (conG m) holdsG).length:Int),[]⟩:=fun h=>by unfold allV;rw[if_pos h]
 have hs0:(productV m (conG m) 100000).2=false→solsA m (conG m) holdsG=[]:=fun h=>by unfold solsA;rw[if_neg (by rw[h];decide)]
 rw[han2] at han;rw[hal0] at hal;have hwr:IntKind.i64.wrap ((solsA m (conG m) holdsG).length:Int)=((solsA m (conG m) holdsG).length:Int):=wrap_i64 (by omega) (by omega)
 rw[hwr] at hct hal1;clear han2 hal0 hwr hk;generalize (productV m (conG m) 100000).2=ok at *;generalize (answerV m (conG m) holdsG).1=av at *;generalize (allV m (conG m) holdsG).1=al at *;generalize solsA m (conG m) holdsG=sv at *;have hsl:=rowsLL_len sv;refine triple_of_awp (hT G) hm Tryz.func3 rfl (by decide +kernel) rfl (by decide +kernel) (by show 2≤_;decide +kernel) rfl ?_
 refine awp_seq2 fun K hK hQ=>?_
 conv=>whnf
 intro b2 hb2;conv=>whnf
 have q2:=St.upd_same S b2 (.obj 26 (rowM m))
 have hle:=St.le_upd' (St.le_refl S) hb2 (.obj 26 (rowM m))
 refine hK _ _ ?_;clear hK hQ K;change awp _ _ _ _ (S.upd b2 (.obj 26 (rowM m))) _;generalize S.upd b2 (.obj 26 (rowM m))=T at *;refine awp_seq2 fun K hK hQ=>?_
 conv=>whnf
 refine⟨_,_,q2,?_⟩;conv=>whnf
 refine(hfw _).mono ?_;rintro o T' ⟨⟨b,rfl⟩,rfl⟩
 cases b with
 | false=>
   conv=>whnf
   refine hQ _ _ _ (by simp) ?_
   clear hK hQ K;conv=>whnf
   exact⟨_,_,⟨rfl,rfl⟩,hle,AV.leS_refl _ _ _⟩
 | true=>
   conv=>whnf
   refine hK _ _ ?_;clear hK hQ K;refine awp_seq2 fun K hK hQ=>?_
   conv=>whnf
   refine(hkn _).mono ?_;rintro o T1 ⟨rfl,rfl⟩;conv=>whnf
   refine hK _ _ ?_;clear hK hQ K;refine awp_seq2 fun K hK hQ=>?_
   conv=>whnf
   refine⟨_,_,q2,?_⟩;conv=>whnf
   refine(hso _).mono ?_;rintro o U ⟨bs,hbs,rfl,rfl⟩;conv=>whnf
   have p2:=St.up (p:=.obj 26 (rowM m)) hbs q2
   have hleU:=St.le_upd' hle hbs (.obj 26 (rowM m))
   refine(hgi _ _ (St.upd_same _ _ _)).mono ?_;rintro o U ⟨rfl,rfl⟩;generalize T1.upd bs (.obj 26 (rowM m))=U at *;conv=>whnf
   refine hK _ _ ?_;clear hK hQ K;refine awp_seq2 fun K hK hQ=>?_
   conv=>whnf
   refine⟨_,_,p2,?_⟩;conv=>whnf
   refine(hct _).mono ?_;rintro o U1 ⟨rfl,rfl⟩;conv=>whnf
   refine hK _ _ ?_;clear hK hQ K;refine awp_seq2 fun K hK hQ=>?_
   conv=>whnf
   refine⟨_,_,p2,?_⟩;conv=>whnf
   refine(han _).mono ?_;rintro o U2 ⟨rfl,rfl⟩;obtain⟨vk,vw,vc,vv⟩:=av;obtain⟨ek,ew,ec,evs⟩:=al;unfold rowVd at *;dsimp only at *;conv=>whnf
   intro b9 hb9;conv=>whnf
   refine⟨_,_,St.upd_same _ _ _,?_⟩;conv=>whnf
   rw[St.upd_upd];refine hK _ _ ?_;clear hK hQ K;refine awp_seq2 fun K hK hQ=>?_
   conv=>whnf
   refine⟨_,_,St.up hb9 p2,?_⟩;conv=>whnf
   refine(hal _).mono ?_;rintro o U3 ⟨rfl,rfl⟩;conv=>whnf
   intro b11 hb11;conv=>whnf
   refine⟨_,_,St.upd_same _ _ _,?_⟩;conv=>whnf
   rw[St.upd_upd];have r2:=St.up (p:=(.obj 39 [.int .i64 ek,.int .i64 0,.int .i64 ew,.int .i64 ec,.sl .any 1 (rowsI evs)])) hb11 (St.up (p:=(.obj 39 [.int .i64 vk,.int .i64 0,.int .i64 vw,.int .i64 vc,.sl .any 1 (rowsI vv)])) hb9 p2);have r9:=St.up (p:=(.obj 39 [.int .i64 ek,.int .i64 0,.int .i64 ew,.int .i64 ec,.sl .any 1 (rowsI evs)])) hb11 (St.upd_same U2 b9 (.obj 39 [.int .i64 vk,.int .i64 0,.int .i64 vw,.int .i64 vc,.sl .any 1 (rowsI vv)]));have r11:=St.upd_same (U2.upd b9 (.obj 39 [.int .i64 vk,.int .i64 0,.int .i64 vw,.int .i64 vc,.sl .any 1 (rowsI vv)])) b11 (.obj 39 [.int .i64 ek,.int .i64 0,.int .i64 ew,.int .i64 ec,.sl .any 1 (rowsI evs)]);have hleW:=St.le_upd' (St.le_upd' hleU hb9 (.obj 39 [.int .i64 vk,.int .i64 0,.int .i64 vw,.int .i64 vc,.sl .any 1 (rowsI vv)])) hb11 (.obj 39 [.int .i64 ek,.int .i64 0,.int .i64 ew,.int .i64 ec,.sl .any 1 (rowsI evs)]);change K .normal _ ((U2.upd b9 (.obj 39 [.int .i64 vk,.int .i64 0,.int .i64 vw,.int .i64 vc,.sl .any 1 (rowsI vv)])).upd b11 (.obj 39 [.int .i64 ek,.int .i64 0,.int .i64 ew,.int .i64 ec,.sl .any 1 (rowsI evs)]));generalize (U2.upd b9 (.obj 39 [.int .i64 vk,.int .i64 0,.int .i64 vw,.int .i64 vc,.sl .any 1 (rowsI vv)])).upd b11 (.obj 39 [.int .i64 ek,.int .i64 0,.int .i64 ew,.int .i64 ec,.sl .any 1 (rowsI evs)])=W at *;clear hb9 hb11 p2 hleU hbs hle q2 hb2;refine hK _ _ ?_;clear hK hQ K;refine awp_seq2 fun K hK hQ=>?_
   cases ok with
   | false=>
     obtain rfl:=hs0 rfl;have hv0:=han0 rfl;unfold vd0 at hv0
     injection hv0 with e1 e2 e3 e4
     subst e1 e2 e3 e4;conv=>whnf
     intro _;conv=>whnf
     refine hK _ _ ?_;clear hK hQ K;refine awp_seq2 fun K hK hQ=>?_
     conv=>whnf
     intro _;conv=>whnf
     refine⟨_,_,r9,?_⟩;conv=>whnf
     refine hQ _ _ _ (by simp) ?_
     clear hK hQ K;conv=>whnf
     exact⟨_,_,⟨rfl,rfl⟩,hleW,AV.leS_refl _ _ _⟩
   | true=>
     have hv1:=hal1 rfl
     injection hv1 with e1 e2 e3 e4
     subst e1 e2 e3 e4
     replace hans:=hans rfl
     replace hmem:=hmem rfl
     have hsv:=fun S=>sameVerdict_self (G:=G) ⟨6,0,sv.length,[]⟩ (by show([]:List Int).length≤_;decide) S
     unfold rowVd at hsv;dsimp only at hsv;conv=>whnf
     intro _;rw[hsl];conv=>whnf
     refine split_of (fun h=>absurd h (by simp)) (fun _=>?_)
     conv=>whnf
     refine⟨_,_,r11,?_⟩;conv=>whnf
     refine(Triple.argsD (hsv _) (by simp[AV.dlL,AV.dl,AV.dlR,AV.dlR_refl,rowsI])).mono ?_
     rintro o W1 ⟨rfl,rfl⟩;conv=>whnf
     refine hK _ _ ?_;clear hK hQ K;refine awp_seq2 fun K hK hQ=>?_
     conv=>whnf
     refine hK _ _ ?_;clear hK hQ K;refine awp_seq2 fun K hK hQ=>?_
     conv=>whnf
     refine hK _ _ ?_;clear hK hQ K;refine awp_seq2 fun K hK hQ=>?_
     conv=>whnf
     have hgl:∀ i,∀ h:i<sv.length,(rowsLL sv)[(i:Int).toNat]? = some [.sl .any 1 (rowsI sv[i])]:=fun i h=>by simp[rowsLL,h]
     refine⟨⟨Nat×Bool×Bool,fun z=>[(1,.sl .any 1 (rowsI a)),(2,.ref b2 0),(5,.sl .any 1 (rowsLL sv)),(7,.int .i64 (sv.length:Int)),(9,.ref b9 0),(13,.bool z.2.1),(14,.bool z.2.2),(15,.int .i64 (z.1:Int))],
      fun z S1=>S1=W1∧z.1≤sv.length∧z.2.1=(sv.take z.1).any (fun x=>decide (x=vv))∧z.2.2=(sv.take z.1).any (fun x=>decide (x=a)),fun z=>sv.length-z.1⟩,
      ⟨(0,false,false),⟨⟨rfl,rfl⟩,rfl,⟨rfl,rfl⟩,rfl,rfl,rfl,rfl,rfl,trivial⟩,_,St.leW_refl _,rfl,Nat.zero_le _,rfl,rfl⟩,?_⟩
     rintro⟨i,am,mi⟩ S1 ⟨rfl,hi,ham,hmi⟩;dsimp only at hi ham hmi;conv=>whnf
     intro _;rw[hsl];conv=>whnf
     refine split_of (fun hlt0=>?_) (fun hlt0=>?_)
     ·have hlt:i<sv.length:=by have:=of_decide_eq_true hlt0;dsimp only at this;omega
      clear hlt0;have w1:IntKind.i64.wrap ((i:Int)+1)=((i+1:Nat):Int):=wrap_nat (by omega)
      have hzm:sv[i]∈sv:=List.getElem_mem hlt
      have hzz:=hzl _ hzm
      have hs:=fun S=>hsol sv[i] (by omega) S
      rw[(hmem _).1 hzm] at hs;have hw:=fun S=>hwo sv[i] (by omega) S
      have ga:=hgl i hlt
      have hah:∀ S,0<i→∃ hlt':i-1<sv.length,Triple P (C G) 16 [.sl .any 1 (rowsI (sv[i-1]'hlt')),.sl .any 1 (rowsI sv[i])] S fun o S'=>o=.ret (.bool true)∧S'=S:=fun S h0=>by
       have hlt':i-1<sv.length:=by omega
       have hp:=List.pairwise_iff_getElem.1 hrise (i-1) i hlt' hlt (by omega)
       have hz':=hzl _ (List.getElem_mem hlt')
       have h:=ahead_ok (G:=G) (sv[i-1]'hlt') sv[i] (by omega) (by omega) S
       rw[hp] at h;exact⟨hlt',h⟩
      have hleast:m.hasGoal=true→decide (worthV m (conG m) sv[i]<vw)=false:=fun hg=>by
       rcases hans with ⟨h,_⟩ | ⟨h,_⟩ | ⟨_,l,hl,hv,hmin⟩
       ·have:sv.length=0:=by rw[h];rfl
        omega
       ·rw[hg] at h;cases h
       ·injection hv with e1 e2
        rw[e2,decide_eq_false_iff_not];have:=hmin _ hzm;omega
      have hsA:=fun S=>sameInts_ok (G:=G) sv[i] vv (by omega) S
      have hsB:=fun S=>sameInts_ok (G:=G) sv[i] a (by omega) S
      have hta:(sv.take (i+1)).any (fun z=>decide (z=vv))=((sv.take i).any (fun z=>decide (z=vv)) || decide (sv[i]=vv)):=by
       rw[List.take_add_one,List.getElem?_eq_getElem hlt,List.any_append];simp
      have htb:(sv.take (i+1)).any (fun z=>decide (z=a))=((sv.take i).any (fun z=>decide (z=a)) || decide (sv[i]=a)):=by
       rw[List.take_add_one,List.getElem?_eq_getElem hlt,List.any_append];simp
      rw[← ham] at hta;rw[← hmi] at htb;clear ham hmi;refine⟨[5,20,33],(.free 0 (.free 1 (.free 2 (.free 3 (.free 4 (.free 5 (.free 6 (.free 7 (.free 8 (.free 9 (.free 10 (.free 11 (.free 12 (.free 13 (.free 14 (.free 15 (.free 16 (.free 17 (.free 18 (.free 19 (.free 20 (.free 21 (.free 22 (.free 23 (.free 24 (.free 25 (.free 26 (.free 27 (.free 28 (.free 29 (.free 30 (.free 31 (.free 32 (.free 33 (.free 34 (.free 35 (.free 36 (.free 37 (.free 38 .done))))))))))))))))))))))))))))))))))))))),_,by decide +kernel,?_,fun _ _ h=>⟨_,.inl rfl,h⟩⟩
      conv=>whnf
      refine⟨_,_,r2,?_⟩;conv=>whnf
      refine⟨_,⟨by omega,ga⟩,?_⟩
      conv=>whnf
      refine⟨.bool true,?_,?_⟩
      ·conv=>whnf
       refine(hs _).mono ?_;rintro o T9 ⟨rfl,rfl⟩;exact⟨rfl,rfl⟩
      conv=>whnf
      by_cases h0:0<i
      ·obtain⟨hlt',hah⟩:=hah S1 h0;have ga':=hgl (i-1) hlt';have wm:IntKind.i64.wrap ((i:Int)-1)=((i-1:Nat):Int):=by rw[wrap_i64 (by omega) (by omega)];omega
       have hd:decide ((i:Int) > 0)=true:=decide_eq_true (by omega)
       rw[hd];conv=>whnf
       rw[wm];refine⟨_,⟨by omega,ga'⟩,?_⟩
       conv=>whnf
       refine⟨_,⟨by omega,ga⟩,?_⟩
       conv=>whnf
       refine⟨.bool true,?_,?_⟩
       ·conv=>whnf
        refine(hah).mono ?_;rintro o T9 ⟨rfl,rfl⟩;exact⟨rfl,rfl⟩
       conv=>whnf
       refine⟨_,_,r2,?_⟩;conv=>whnf
       cases hg:m.hasGoal with
       | false=>
         conv=>whnf
         refine⟨[8],(.free 0 (.free 1 (.free 2 (.free 3 (.free 4 (.free 5 (.free 6 (.free 7 (.free 8 (.free 9 (.free 10 .done))))))))))),_,by decide +kernel,?_,fun _ _ h=>⟨_,.inl rfl,h⟩⟩
         cases am with
         | true=>
           conv=>whnf
           cases mi with
           | true=>
             conv=>whnf
             exact⟨(i+1,_,_),⟨⟨rfl,rfl⟩,rfl,⟨rfl,rfl⟩,rfl,rfl,rfl,rfl,congrArg _ w1,trivial⟩,⟨_,St.leW_refl _,rfl,hlt,Eq.trans (by rfl) hta.symm,Eq.trans (by rfl) htb.symm⟩,by show sv.length-(i+1)<sv.length-i;omega⟩
           | false=>
             conv=>whnf
             refine⟨_,⟨by omega,ga⟩,?_⟩
             conv=>whnf
             refine(hsB _).mono ?_;rintro o T9 ⟨rfl,rfl⟩;conv=>whnf
             exact⟨(i+1,_,_),⟨⟨rfl,rfl⟩,rfl,⟨rfl,rfl⟩,rfl,rfl,rfl,rfl,congrArg _ w1,trivial⟩,⟨_,St.leW_refl _,rfl,hlt,Eq.trans (by rfl) hta.symm,Eq.trans (by rfl) htb.symm⟩,by show sv.length-(i+1)<sv.length-i;omega⟩
         | false=>
           conv=>whnf
           refine⟨_,⟨by omega,ga⟩,?_⟩
           conv=>whnf
           refine⟨_,_,r9,?_⟩;conv=>whnf
           refine⟨.bool (decide (sv[i]=vv)),?_,?_⟩
           ·conv=>whnf
            refine(hsA _).mono ?_;rintro o T9 ⟨rfl,rfl⟩;exact⟨rfl,rfl⟩
           conv=>whnf
           cases mi with
           | true=>
             conv=>whnf
             exact⟨(i+1,_,_),⟨⟨rfl,rfl⟩,rfl,⟨rfl,rfl⟩,rfl,rfl,rfl,rfl,congrArg _ w1,trivial⟩,⟨_,St.leW_refl _,rfl,hlt,Eq.trans (by rfl) hta.symm,Eq.trans (by rfl) htb.symm⟩,by show sv.length-(i+1)<sv.length-i;omega⟩
           | false=>
             conv=>whnf
             refine⟨_,⟨by omega,ga⟩,?_⟩
             conv=>whnf
             refine(hsB _).mono ?_;rintro o T9 ⟨rfl,rfl⟩;conv=>whnf
             exact⟨(i+1,_,_),⟨⟨rfl,rfl⟩,rfl,⟨rfl,rfl⟩,rfl,rfl,rfl,rfl,congrArg _ w1,trivial⟩,⟨_,St.leW_refl _,rfl,hlt,Eq.trans (by rfl) hta.symm,Eq.trans (by rfl) htb.symm⟩,by show sv.length-(i+1)<sv.length-i;omega⟩
       | true=>
         conv=>whnf
         refine⟨_,_,r2,?_⟩;conv=>whnf
         refine⟨_,⟨by omega,ga⟩,?_⟩
         conv=>whnf
         refine⟨.int .i64 (worthV m (conG m) sv[i]),?_,?_⟩
         ·conv=>whnf
          refine(hw _).mono ?_;rintro o T9 ⟨rfl,rfl⟩;exact⟨rfl,rfl⟩
         conv=>whnf
         refine⟨_,_,r9,?_⟩;conv=>whnf
         rw[hleast hg];conv=>whnf
         refine⟨[8],(.free 0 (.free 1 (.free 2 (.free 3 (.free 4 (.free 5 (.free 6 (.free 7 (.free 8 (.free 9 (.free 10 .done))))))))))),_,by decide +kernel,?_,fun _ _ h=>⟨_,.inl rfl,h⟩⟩
         cases am with
         | true=>
           conv=>whnf
           cases mi with
           | true=>
             conv=>whnf
             exact⟨(i+1,_,_),⟨⟨rfl,rfl⟩,rfl,⟨rfl,rfl⟩,rfl,rfl,rfl,rfl,congrArg _ w1,trivial⟩,⟨_,St.leW_refl _,rfl,hlt,Eq.trans (by rfl) hta.symm,Eq.trans (by rfl) htb.symm⟩,by show sv.length-(i+1)<sv.length-i;omega⟩
           | false=>
             conv=>whnf
             refine⟨_,⟨by omega,ga⟩,?_⟩
             conv=>whnf
             refine(hsB _).mono ?_;rintro o T9 ⟨rfl,rfl⟩;conv=>whnf
             exact⟨(i+1,_,_),⟨⟨rfl,rfl⟩,rfl,⟨rfl,rfl⟩,rfl,rfl,rfl,rfl,congrArg _ w1,trivial⟩,⟨_,St.leW_refl _,rfl,hlt,Eq.trans (by rfl) hta.symm,Eq.trans (by rfl) htb.symm⟩,by show sv.length-(i+1)<sv.length-i;omega⟩
         | false=>
           conv=>whnf
           refine⟨_,⟨by omega,ga⟩,?_⟩
           conv=>whnf
           refine⟨_,_,r9,?_⟩;conv=>whnf
           refine⟨.bool (decide (sv[i]=vv)),?_,?_⟩
           ·conv=>whnf
            refine(hsA _).mono ?_;rintro o T9 ⟨rfl,rfl⟩;exact⟨rfl,rfl⟩
           conv=>whnf
           cases mi with
           | true=>
             conv=>whnf
             exact⟨(i+1,_,_),⟨⟨rfl,rfl⟩,rfl,⟨rfl,rfl⟩,rfl,rfl,rfl,rfl,congrArg _ w1,trivial⟩,⟨_,St.leW_refl _,rfl,hlt,Eq.trans (by rfl) hta.symm,Eq.trans (by rfl) htb.symm⟩,by show sv.length-(i+1)<sv.length-i;omega⟩
           | false=>
             conv=>whnf
             refine⟨_,⟨by omega,ga⟩,?_⟩
             conv=>whnf
             refine(hsB _).mono ?_;rintro o T9 ⟨rfl,rfl⟩;conv=>whnf
             exact⟨(i+1,_,_),⟨⟨rfl,rfl⟩,rfl,⟨rfl,rfl⟩,rfl,rfl,rfl,rfl,congrArg _ w1,trivial⟩,⟨_,St.leW_refl _,rfl,hlt,Eq.trans (by rfl) hta.symm,Eq.trans (by rfl) htb.symm⟩,by show sv.length-(i+1)<sv.length-i;omega⟩
      ·have hd:decide ((i:Int) > 0)=false:=decide_eq_false (by omega)
       rw[hd];conv=>whnf
       refine⟨_,_,r2,?_⟩;conv=>whnf
       cases hg:m.hasGoal with
       | false=>
         conv=>whnf
         refine⟨[8],(.free 0 (.free 1 (.free 2 (.free 3 (.free 4 (.free 5 (.free 6 (.free 7 (.free 8 (.free 9 (.free 10 .done))))))))))),_,by decide +kernel,?_,fun _ _ h=>⟨_,.inl rfl,h⟩⟩
         cases am with
         | true=>
           conv=>whnf
           cases mi with
           | true=>
             conv=>whnf
             exact⟨(i+1,_,_),⟨⟨rfl,rfl⟩,rfl,⟨rfl,rfl⟩,rfl,rfl,rfl,rfl,congrArg _ w1,trivial⟩,⟨_,St.leW_refl _,rfl,hlt,Eq.trans (by rfl) hta.symm,Eq.trans (by rfl) htb.symm⟩,by show sv.length-(i+1)<sv.length-i;omega⟩
           | false=>
             conv=>whnf
             refine⟨_,⟨by omega,ga⟩,?_⟩
             conv=>whnf
             refine(hsB _).mono ?_;rintro o T9 ⟨rfl,rfl⟩;conv=>whnf
             exact⟨(i+1,_,_),⟨⟨rfl,rfl⟩,rfl,⟨rfl,rfl⟩,rfl,rfl,rfl,rfl,congrArg _ w1,trivial⟩,⟨_,St.leW_refl _,rfl,hlt,Eq.trans (by rfl) hta.symm,Eq.trans (by rfl) htb.symm⟩,by show sv.length-(i+1)<sv.length-i;omega⟩
         | false=>
           conv=>whnf
           refine⟨_,⟨by omega,ga⟩,?_⟩
           conv=>whnf
           refine⟨_,_,r9,?_⟩;conv=>whnf
           refine⟨.bool (decide (sv[i]=vv)),?_,?_⟩
           ·conv=>whnf
            refine(hsA _).mono ?_;rintro o T9 ⟨rfl,rfl⟩;exact⟨rfl,rfl⟩
           conv=>whnf
           cases mi with
           | true=>
             conv=>whnf
             exact⟨(i+1,_,_),⟨⟨rfl,rfl⟩,rfl,⟨rfl,rfl⟩,rfl,rfl,rfl,rfl,congrArg _ w1,trivial⟩,⟨_,St.leW_refl _,rfl,hlt,Eq.trans (by rfl) hta.symm,Eq.trans (by rfl) htb.symm⟩,by show sv.length-(i+1)<sv.length-i;omega⟩
           | false=>
             conv=>whnf
             refine⟨_,⟨by omega,ga⟩,?_⟩
             conv=>whnf
             refine(hsB _).mono ?_;rintro o T9 ⟨rfl,rfl⟩;conv=>whnf
             exact⟨(i+1,_,_),⟨⟨rfl,rfl⟩,rfl,⟨rfl,rfl⟩,rfl,rfl,rfl,rfl,congrArg _ w1,trivial⟩,⟨_,St.leW_refl _,rfl,hlt,Eq.trans (by rfl) hta.symm,Eq.trans (by rfl) htb.symm⟩,by show sv.length-(i+1)<sv.length-i;omega⟩
       | true=>
         conv=>whnf
         refine⟨_,_,r2,?_⟩;conv=>whnf
         refine⟨_,⟨by omega,ga⟩,?_⟩
         conv=>whnf
         refine⟨.int .i64 (worthV m (conG m) sv[i]),?_,?_⟩
         ·conv=>whnf
          refine(hw _).mono ?_;rintro o T9 ⟨rfl,rfl⟩;exact⟨rfl,rfl⟩
         conv=>whnf
         refine⟨_,_,r9,?_⟩;conv=>whnf
         rw[hleast hg];conv=>whnf
         refine⟨[8],(.free 0 (.free 1 (.free 2 (.free 3 (.free 4 (.free 5 (.free 6 (.free 7 (.free 8 (.free 9 (.free 10 .done))))))))))),_,by decide +kernel,?_,fun _ _ h=>⟨_,.inl rfl,h⟩⟩
         cases am with
         | true=>
           conv=>whnf
           cases mi with
           | true=>
             conv=>whnf
             exact⟨(i+1,_,_),⟨⟨rfl,rfl⟩,rfl,⟨rfl,rfl⟩,rfl,rfl,rfl,rfl,congrArg _ w1,trivial⟩,⟨_,St.leW_refl _,rfl,hlt,Eq.trans (by rfl) hta.symm,Eq.trans (by rfl) htb.symm⟩,by show sv.length-(i+1)<sv.length-i;omega⟩
           | false=>
             conv=>whnf
             refine⟨_,⟨by omega,ga⟩,?_⟩
             conv=>whnf
             refine(hsB _).mono ?_;rintro o T9 ⟨rfl,rfl⟩;conv=>whnf
             exact⟨(i+1,_,_),⟨⟨rfl,rfl⟩,rfl,⟨rfl,rfl⟩,rfl,rfl,rfl,rfl,congrArg _ w1,trivial⟩,⟨_,St.leW_refl _,rfl,hlt,Eq.trans (by rfl) hta.symm,Eq.trans (by rfl) htb.symm⟩,by show sv.length-(i+1)<sv.length-i;omega⟩
         | false=>
           conv=>whnf
           refine⟨_,⟨by omega,ga⟩,?_⟩
           conv=>whnf
           refine⟨_,_,r9,?_⟩;conv=>whnf
           refine⟨.bool (decide (sv[i]=vv)),?_,?_⟩
           ·conv=>whnf
            refine(hsA _).mono ?_;rintro o T9 ⟨rfl,rfl⟩;exact⟨rfl,rfl⟩
           conv=>whnf
           cases mi with
           | true=>
             conv=>whnf
             exact⟨(i+1,_,_),⟨⟨rfl,rfl⟩,rfl,⟨rfl,rfl⟩,rfl,rfl,rfl,rfl,congrArg _ w1,trivial⟩,⟨_,St.leW_refl _,rfl,hlt,Eq.trans (by rfl) hta.symm,Eq.trans (by rfl) htb.symm⟩,by show sv.length-(i+1)<sv.length-i;omega⟩
           | false=>
             conv=>whnf
             refine⟨_,⟨by omega,ga⟩,?_⟩
             conv=>whnf
             refine(hsB _).mono ?_;rintro o T9 ⟨rfl,rfl⟩;conv=>whnf
             exact⟨(i+1,_,_),⟨⟨rfl,rfl⟩,rfl,⟨rfl,rfl⟩,rfl,rfl,rfl,rfl,congrArg _ w1,trivial⟩,⟨_,St.leW_refl _,rfl,hlt,Eq.trans (by rfl) hta.symm,Eq.trans (by rfl) htb.symm⟩,by show sv.length-(i+1)<sv.length-i;omega⟩
     ·skip
      have hlt:i=sv.length:=by have:=of_decide_eq_false hlt0;dsimp only at this;omega
      subst hlt;rw[List.take_length] at ham hmi;have hsk:solK m (conG m) holdsG a=mi:=by
       rw[hmi,Bool.eq_iff_iff,← hmem a,List.any_eq_true];exact⟨fun h=>⟨a,h,by simp⟩,fun⟨x,hx,he⟩=>by rw[← of_decide_eq_true he];exact hx⟩
      have hsA:=fun S=>hsol a (by omega) S
      rw[hsk] at hsA;clear hmi hsk hsol hmem;refine hK _ _ ?_;clear hK hQ K;refine awp_seq2 fun K hK hQ=>?_
      rcases hans with ⟨h1,hv⟩ | ⟨hg,l,hl,hv⟩ | ⟨hg,l,hl,hv,_⟩
      ·subst h1;unfold vd0 at hv
       injection hv with e1 e2 e3 e4
       subst e1 e2 e3 e4;obtain rfl:am=false:=ham;conv=>whnf
       refine⟨_,_,r2,?_⟩;conv=>whnf
       refine(hsA _).mono ?_;rintro o W2 ⟨rfl,rfl⟩;have hmm:∀ P1:Prop,(mi=true→P1)→(mi=false→P1)→P1:=fun P1 h1 h2=>by cases mi;exact h2 rfl;exact h1 rfl
       refine hmm _ (fun hm1=>?_) (fun hm1=>?_)<;>subst hm1
       all_goals (conv=>whnf)
       all_goals (try (refine split_of (fun h=>absurd h (by simp)) (fun _=>?_);conv=>whnf))
       all_goals (refine⟨_,_,r9,?_⟩)
       all_goals (conv=>whnf)
       all_goals (try (refine split_of (fun h=>absurd h (by simp)) (fun _=>?_);conv=>whnf))
       all_goals (refine hK _ _ ?_)
       all_goals (clear hK hQ K)
       all_goals (refine awp_seq2 fun K hK hQ=>?_)
       all_goals (refine⟨[26],(.free 0 (.free 1 (.free 2 (.free 3 (.free 4 (.free 5 (.free 6 (.free 7 (.free 8 (.free 9 (.free 10 (.free 11 (.free 12 (.free 13 (.free 14 (.free 15 (.free 16 (.free 17 (.free 18 (.free 19 (.free 20 (.free 21 (.free 22 (.free 23 (.free 24 (.free 25 (.free 26 (.free 27 (.free 28 (.free 29 (.free 30 .done))))))))))))))))))))))))))))))),_,by decide +kernel,?_,fun _ _ h=>⟨_,.inl rfl,h⟩⟩)
       all_goals (conv=>whnf)
       all_goals (refine hK _ _ ?_)
       all_goals (clear hK hQ K)
       all_goals (conv=>whnf)
       all_goals (exact⟨_,_,⟨rfl,rfl⟩,hleW,AV.leS_refl _ _ _⟩)
      ·injection hv with e1 e2 e3 e4
       subst e1 e2 e3 e4;obtain rfl:am=true:=ham.trans (List.any_eq_true.2 ⟨vv,hl,by simp⟩)
       obtain⟨x,r,rfl⟩:∃ x r,sv=x::r:=by
        cases sv with
        | nil=>cases hl
        | cons x r=>exact⟨x,r,rfl⟩
       conv=>whnf
       refine⟨_,_,r2,?_⟩;conv=>whnf
       refine(hsA _).mono ?_;rintro o W2 ⟨rfl,rfl⟩;have hmm:∀ P1:Prop,(mi=true→P1)→(mi=false→P1)→P1:=fun P1 h1 h2=>by cases mi;exact h2 rfl;exact h1 rfl
       refine hmm _ (fun hm1=>?_) (fun hm1=>?_)<;>subst hm1
       all_goals (conv=>whnf)
       all_goals (try (refine split_of (fun h=>absurd h (by simp)) (fun _=>?_);conv=>whnf))
       all_goals (refine⟨_,_,r9,?_⟩)
       all_goals (conv=>whnf)
       all_goals (try (refine split_of (fun h=>absurd h (by simp)) (fun _=>?_);conv=>whnf))
       all_goals (refine hK _ _ ?_)
       all_goals (clear hK hQ K)
       all_goals (refine awp_seq2 fun K hK hQ=>?_)
       all_goals (refine⟨[26],(.free 0 (.free 1 (.free 2 (.free 3 (.free 4 (.free 5 (.free 6 (.free 7 (.free 8 (.free 9 (.free 10 (.free 11 (.free 12 (.free 13 (.free 14 (.free 15 (.free 16 (.free 17 (.free 18 (.free 19 (.free 20 (.free 21 (.free 22 (.free 23 (.free 24 (.free 25 (.free 26 (.free 27 (.free 28 (.free 29 (.free 30 .done))))))))))))))))))))))))))))))),_,by decide +kernel,?_,fun _ _ h=>⟨_,.inl rfl,h⟩⟩)
       all_goals (conv=>whnf)
       all_goals (refine⟨_,_,r9,?_⟩)
       all_goals (conv=>whnf)
       all_goals (refine⟨_,_,r2,?_⟩)
       all_goals (conv=>whnf)
       all_goals (rw[hg])
       all_goals (conv=>whnf)
       all_goals (refine hK _ _ ?_)
       all_goals (clear hK hQ K)
       all_goals (conv=>whnf)
       all_goals (exact⟨_,_,⟨rfl,rfl⟩,hleW,AV.leS_refl _ _ _⟩)
      ·injection hv with e1 e2 e3 e4
       subst e1 e3 e4;obtain rfl:am=true:=ham.trans (List.any_eq_true.2 ⟨vv,hl,by simp⟩)
       have hw:=fun S=>hwo vv (by have:=hzl _ hl;omega) S
       rw[← e2] at hw;obtain⟨x,r,rfl⟩:∃ x r,sv=x::r:=by
        cases sv with
        | nil=>cases hl
        | cons x r=>exact⟨x,r,rfl⟩
       conv=>whnf
       refine⟨_,_,r2,?_⟩;conv=>whnf
       refine(hsA _).mono ?_;rintro o W2 ⟨rfl,rfl⟩;have hmm:∀ P1:Prop,(mi=true→P1)→(mi=false→P1)→P1:=fun P1 h1 h2=>by cases mi;exact h2 rfl;exact h1 rfl
       refine hmm _ (fun hm1=>?_) (fun hm1=>?_)<;>subst hm1
       all_goals (conv=>whnf)
       all_goals (try (refine split_of (fun h=>absurd h (by simp)) (fun _=>?_);conv=>whnf))
       all_goals (refine⟨_,_,r9,?_⟩)
       all_goals (conv=>whnf)
       all_goals (try (refine split_of (fun h=>absurd h (by simp)) (fun _=>?_);conv=>whnf))
       all_goals (refine hK _ _ ?_)
       all_goals (clear hK hQ K)
       all_goals (refine awp_seq2 fun K hK hQ=>?_)
       all_goals (refine⟨[26],(.free 0 (.free 1 (.free 2 (.free 3 (.free 4 (.free 5 (.free 6 (.free 7 (.free 8 (.free 9 (.free 10 (.free 11 (.free 12 (.free 13 (.free 14 (.free 15 (.free 16 (.free 17 (.free 18 (.free 19 (.free 20 (.free 21 (.free 22 (.free 23 (.free 24 (.free 25 (.free 26 (.free 27 (.free 28 (.free 29 (.free 30 .done))))))))))))))))))))))))))))))),_,by decide +kernel,?_,fun _ _ h=>⟨_,.inl rfl,h⟩⟩)
       all_goals (conv=>whnf)
       all_goals (refine⟨_,_,r9,?_⟩)
       all_goals (conv=>whnf)
       all_goals (refine⟨_,_,r9,?_⟩)
       all_goals (conv=>whnf)
       all_goals (refine⟨_,_,r2,?_⟩)
       all_goals (conv=>whnf)
       all_goals (rw[hg])
       all_goals (conv=>whnf)
       all_goals (refine⟨_,_,r9,?_⟩)
       all_goals (conv=>whnf)
       all_goals (refine⟨_,_,r2,?_⟩)
       all_goals (conv=>whnf)
       all_goals (refine⟨_,_,r9,?_⟩)
       all_goals (conv=>whnf)
       all_goals (refine⟨.int .i64 vw,(hw _).mono ?_,?_⟩)
       all_goals (first | (rintro o T9 ⟨rfl,rfl⟩;exact⟨rfl,rfl⟩) | ((conv=>whnf);refine hK _ _ ?_;(conv=>whnf);exact⟨_,_,⟨by rw[beq_self_eq_true],rfl⟩,hleW,AV.leS_refl _ _ _⟩))
end Go.Proofs.YtjpboanohpaibaaGreatDoor.Aw

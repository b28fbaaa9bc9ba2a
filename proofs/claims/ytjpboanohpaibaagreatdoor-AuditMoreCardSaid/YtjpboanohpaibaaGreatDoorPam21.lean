/- A number of 64 bits. The entry of a law's walk where it is handed lists: what an argument reads as, in the abstract walk -/
import Derived.Test.YtjpboanohpaibaaGreatDoorPam1
import Derived.Test.YtjpboanohpaibaaGreatDoorPam20
import Derived.ProofKit
import Derived.OpenShut
import Derived.Test.YtjpboanohpaibaaGreatDoorPam12
import Derived.SizedLaws
import Derived.Test.YtjpboanohpaibaaGreatDoorPam15
import Derived.Test.YtjpboanohpaibaaGreatDoorPam18
import Derived.Test.YtjpboanohpaibaaGreatDoorPam19
set_option linter.all false
namespace Go.Proofs.YtjpboanohpaibaaGreatDoor.Aw
def okI(z:Int):Prop:=-9223372036854775808≤z∧z≤9223372036854775807
set_option maxRecDepth 100000
open Go Go.RowKit
section
variable {H:Type} {enc:TypeId×Value→H} {W:World}
def Opens(enc:TypeId×Value→H)(W:World)(t:TypeId){α:Type}(row:α→List AV)(Q:α→Prop):Prop:=
 ∀ (fuel:Nat) (cs:List Value) (x:DataW H×List MemPlace),DataW.trod enc Tryz.prog W 0 (fun _=>true) true fuel t cs=some x→∃ a:α,RelL W (rdOf St.emp) (row a) cs∧(∀ u∈cs,u.oneCell'=true)∧Q a
theorem opens_int:Opens enc W 3 (fun n:Int=>[.int .i64 n]) okI:=fun fuel cs x h=>by
 obtain⟨n,rfl,_,hw⟩:=DataW.trod_int Tryz.underlying3 h;refine⟨n,by simp only[RelL,Rel];exact⟨_,_,rfl,rfl,rfl⟩,fun u hu=>?_,?_⟩
 ·obtain rfl:u=.int .i64 n:=by simpa using hu
  rfl
 ·simp only[Lit.wf,Bool.and_eq_true,decide_eq_true_eq] at hw;exact hw
theorem cells_at{k:Nat}{a:Addr}{cs:List Value}(h:W.cells? 0 a k=some cs):cs.length=k∧∀ j,j<k→W.cell? (a.add j)=cs[j]?:=by
 unfold World.cells? at h;rw[if_pos (Nat.zero_le _)] at h;refine⟨by simpa using mapM_some_length h,fun j hj=>mapM_some_get h j j (by simp[hj])⟩
theorem exists_list{β:Type}{R:Nat→β→Prop}:∀ n:Nat,(∀ i,i<n→∃ b,R i b)→∃ l:List β,l.length=n∧∀ i b,l[i]? = some b→R i b
 | 0,_=>⟨[],rfl,fun i b h=>by simp at h⟩
 | n+1,h=>by
   obtain⟨l,hl,hr⟩:=exists_list n fun i hi=>h i (by omega)
   obtain⟨b,hb⟩:=h n (by omega)
   refine⟨l++[b],by simp[hl],fun i c hc=>?_⟩
   by_cases hi:i<l.length
   ·rw[List.getElem?_append_left hi] at hc;exact hr i c hc
   ·rw[List.getElem?_append_right (by omega)] at hc
    have:i=n:=by
     by_cases e:i-l.length=0
     ·omega
     ·rw[List.getElem?_eq_none (by simp;omega)] at hc;cases hc
    subst this;rw[hl,Nat.sub_self] at hc
    cases hc
    exact hb
theorem rows_of{α:Type}{row:α→List AV}{k b:Nat}:∀ (L:List (α×List Value)) (off:Nat),
 (∀ i p,L[i]? = some p→(∀ j,j<k→W.cell? ⟨b,off+i*k+j,none⟩=p.2[j]?)∧p.2.length=k∧(row p.1).length=k∧RelL W (rdOf St.emp) (row p.1) p.2∧∀ u∈p.2,u.oneCell'=true)→
 RelRows W (rdOf St.emp) k b off (L.map fun p=>row p.1)
 | [],off,h=>by simp[RelRows]
 | p::L,off,h=>by
   simp only[List.map_cons,RelRows];obtain⟨h1,h2,h3,h4,h5⟩:=h 0 p rfl;refine⟨⟨h3,RelAt.of_cells h4 (fun i v hv=>?_) h5 fun i hi=>trivial⟩,rows_of L (off+k) fun i q hq=>?_⟩
   ·have hi:i<k:=by
     rcases Nat.lt_or_ge i k with h | h
     ·exact h
     ·rw[List.getElem?_eq_none (by omega)] at hv;cases hv
    have:=h1 i hi
    rw[hv] at this
    simpa using this
   ·obtain⟨g1,g2,g3,g4,g5⟩:=h (i+1) q (by simpa using hq)
    refine⟨fun j hj=>?_,g2,g3,g4,g5⟩
    have:=g1 j hj
    rw[show off+(i+1)*k+j=off+k+i*k+j by rw[Nat.succ_mul];omega] at this
    exact this
theorem spot_none{a:Addr}{v:Value}(h:W.cell? a=some v):a=⟨a.block,a.off,none⟩:=by
 obtain⟨b,off,sp⟩:=a;unfold World.cell? at h;dsimp only at h
 split at h
 ·cases sp with
  | none=>rfl
  | some s=>simp at h
 ·cases h
end
section
variable {H:Type} {enc:TypeId×Value→H} {W:World}
def OpensW(enc:TypeId×Value→H)(W:World)(t:TypeId){α:Type}(row:α→List AV)(Q:α→Prop):Prop:=
 ∀ (fuel:Nat) (cs:List Value) (x:DataW H×List MemPlace),DataW.trod enc Tryz.prog W 0 (fun _=>true) true fuel t cs=some x→(∀ n∈x.1.weights Tryz.prog t,n≤reachBytes)→∃ a:α,RelL W (rdOf St.emp) (row a) cs∧(∀ u∈cs,u.oneCell'=true)∧Q a
theorem Opens.w{t:TypeId}{α:Type}{row:α→List AV}{Q:α→Prop}(h:Opens enc W t row Q):OpensW enc W t row Q:=fun f c x hx _=>h f c x hx
theorem OpensW.mono{t:TypeId}{α:Type}{row:α→List AV}{Q Q':α→Prop}(h:OpensW enc W t row Q)(hq:∀ a,Q a→Q' a):OpensW enc W t row Q':=fun f c x hx hw=>by
 obtain⟨a,h1,h2,h3⟩:=h f c x hx hw;exact⟨a,h1,h2,hq _ h3⟩
theorem weightsAll_mem{e:TypeId}:∀ {l:List (DataW H)} {d:DataW H},d∈l→∀ n∈d.weights Tryz.prog e,n∈DataW.weightsAll Tryz.prog e l
 | x::l,d,hd,n,hn=>by
   simp only[DataW.weightsAll,List.mem_append]
   rcases List.mem_cons.1 hd with rfl | hd
   ·exact .inl hn
   ·exact .inr (weightsAll_mem hd n hn)
theorem opensW_slice{t e:TypeId}{k kb:Nat}{α:Type}{row:α→List AV}{Q:α→Prop}(ht:Tryz.prog.underlying t=some (.slice e))(hc:Tryz.prog.cellsOf e=k)(hb:Tryz.prog.bytesOf e=kb)(hk:0<k)(hrow:∀ a,(row a).length=k)(h:OpensW enc W e row Q) :
 OpensW enc W t (fun l:List α=>[.sl .any k (l.map row)]) (fun l=>(∀ a∈l,Q a)∧l.length≤maxLen∧l.length*kb≤reachBytes):=fun fuel cs x hx hwt=>by
 rcases DataW.trod_slice ht hx with ⟨rfl,_⟩ | ⟨a,len,cap,elems,rest,n,_,rfl,hxe,_,hlc,hcm,hel,helem,hsp,_⟩
 ·refine⟨[],?_,fun u hu=>?_,by simp,by simp,by simp⟩
  ·simp only[RelL,Rel];exact⟨_,_,rfl,.inl ⟨rfl,rfl,.inl rfl⟩,rfl⟩
  ·obtain rfl:u=.slice none 0 0:=by simpa using hu
   rfl
 ·have hwt2:∀ n∈(DataW.slice (elems.map (·.1)) (rest.map (·.1))).weights Tryz.prog t,n≤reachBytes:=by rw[hxe] at hwt;exact hwt
  simp only[DataW.weights,ht] at hwt2;have hbytes:len*kb≤reachBytes:=by
   have:=hwt2 _ (List.mem_cons_self ..)
   rw[hb,List.length_map,hel] at this;exact Nat.le_trans (Nat.mul_le_mul_right _ (Nat.le_add_right _ _)) this
  have hwe:∀ d∈elems,∀ n∈d.1.weights Tryz.prog e,n≤reachBytes:=fun d hd n hn=>hwt2 n (List.mem_cons_of_mem _ (List.mem_append_left _ (weightsAll_mem (List.mem_map.2 ⟨d,hd,rfl⟩) n hn)))
  rw[hc] at helem hsp;have hone:∀ u∈[Value.slice (some a) len cap],u.oneCell'=true:=fun u hu=>by
   obtain rfl:u=.slice (some a) len cap:=by simpa using hu
   rfl
  have hspot:0<cap→a=⟨a.block,a.off,none⟩:=fun hcap=>by
   have hfirst:∃ cs y,W.cells? 0 (a.add 0) k=some cs∧DataW.trod enc Tryz.prog W 0 (fun _=>true) true n e cs=some y:=by
    by_cases hl:0<len
    ·have:=helem 0 hl
     rw[List.getElem?_eq_getElem (by omega),Option.bind_eq_some_iff] at this
     obtain⟨cs,h1,h2⟩:=this;exact⟨cs,_,by simpa using h1,h2⟩
    ·obtain⟨r1,r2⟩:=hsp rfl;have:=r2 0 (by omega)
     rw[List.getElem?_eq_getElem (by omega),Option.bind_eq_some_iff] at this
     obtain⟨cs,h1,h2⟩:=this;exact⟨cs,_,by simpa [show len=0 by omega] using h1,h2⟩
   obtain⟨cs,y,h1,_⟩:=hfirst;obtain⟨c1,c2⟩:=cells_at h1;have:=c2 0 hk;rw[List.getElem?_eq_getElem (by omega)] at this
   exact spot_none (by simpa [Addr.add] using this)
  by_cases hcap:cap=0
  ·have hlen:len=0:=by omega
   subst hcap hlen;refine⟨[],?_,hone,by simp,by simp,by simp⟩
   simp only[RelL,Rel];exact⟨_,_,rfl,.inl ⟨rfl,rfl,.inr ⟨rfl,a,rfl⟩⟩,rfl⟩
  ·have hs:=hspot (by omega)
   obtain⟨b,off,sp⟩:=a;simp only[Addr.mk.injEq,true_and] at hs;subst hs;obtain⟨L,hL,hR⟩:=exists_list (β:=α×List Value) (R:=fun i p=>W.cells? 0 ((⟨b,off,none⟩:Addr).add (i*k)) k=some p.2∧RelL W (rdOf St.emp) (row p.1) p.2∧(∀ u∈p.2,u.oneCell'=true)∧Q p.1) len fun i hi=>by
    have:=helem i hi
    rw[List.getElem?_eq_getElem (by omega),Option.bind_eq_some_iff] at this
    obtain⟨cs,h1,h2⟩:=this;obtain⟨a,a1,a2,a3⟩:=h _ _ _ h2 (hwe _ (List.getElem_mem _));exact⟨(a,cs),h1,a1,a2,a3⟩
   refine⟨L.map (·.1),?_,hone,⟨fun x hx=>?_,by rw[List.length_map];omega,by rw[List.length_map,hL];exact hbytes⟩⟩
   ·simp only[RelL,Rel];refine⟨_,_,rfl,.inr ⟨b,off,cap,by simp[hL],by simpa [hL] using hlc,hcm,trivial,?_⟩,rfl⟩
    rw[List.map_map];refine rows_of L off fun i p hp=>?_
    obtain⟨r1,r2,r3,r4⟩:=hR i p hp;obtain⟨c1,c2⟩:=cells_at r1;refine⟨fun j hj=>?_,c1,hrow _,r2,r3⟩
    have:=c2 j hj
    rw[Addr.add_lit,Addr.add_lit] at this;exact this
   ·obtain⟨p,hp,rfl⟩:=List.mem_map.1 hx;obtain⟨i,hi⟩:=List.getElem?_of_mem hp;exact(hR i p hi).2.2.2
theorem opensW_field{t:TypeId}{fs:Array Field}{n:Nat}{cs:List Value}{xs:List (DataW H×List MemPlace)}(ht:Tryz.prog.underlying t=some (.struct fs))(hw:∀ n∈(DataW.agg (xs.map (·.1)):DataW H).weights Tryz.prog t,n≤reachBytes)
 (hf:∀ (i:Nat) (f:Field),fs[i]? = some f→DataW.trod enc Tryz.prog W 0 (fun _=>true) true n f.type ((cs.drop f.offset).take (Tryz.prog.cellsOf f.type))=xs[i]?)
 (i:Nat) (f:Field) (hfi:fs[i]? = some f) (hi:i<xs.length) {k:Nat} (hk:Tryz.prog.cellsOf f.type=k) {α:Type} {row:α→List AV} {Q:α→Prop} (ho:OpensW enc W f.type row Q) :
 ∃ a,RelL W (rdOf St.emp) (row a) ((cs.drop f.offset).take k)∧(∀ u∈(cs.drop f.offset).take k,u.oneCell'=true)∧Q a:=by
 have h1:=hf i f hfi
 rw[hk,List.getElem?_eq_getElem hi] at h1;refine ho _ _ _ h1 fun m hm=>hw m ?_
 simp only[DataW.weights,ht];refine DataW.weights_mem_each (j:=i) (t:=f.type) (d:=(xs[i]).1) ?_ ?_ m hm
 ·rw[List.getElem?_map,Array.getElem?_toList,hfi];rfl
 ·rw[List.getElem?_map,List.getElem?_eq_getElem hi];rfl
def QI(l:List Int):Prop:=(∀ a∈l,okI a)∧l.length≤maxLen∧l.length*8≤reachBytes
theorem opensW_ints:OpensW enc W 27 (fun l:List Int=>[.sl .any 1 (rowsI l)]) QI:=
 opensW_slice Tryz.underlying27 (by kernel_rfl) (by kernel_rfl) (by decide) (fun _=>rfl) opens_int.w
theorem opensW_lists:OpensW enc W 30 (fun l:List (List Int)=>[.sl .any 1 (rowsLL l)]) (fun l=>(∀ a∈l,QI a)∧l.length≤maxLen∧l.length*24≤reachBytes):=
 opensW_slice Tryz.underlying30 (by kernel_rfl) (by kernel_rfl) (by decide) (fun _=>rfl) opensW_ints
def QT(t:TermV):Prop:=okI t.1∧okI t.2
theorem opensW_term:OpensW enc W 67 (fun t:TermV=>[.int .i64 t.1,.int .i64 t.2]) QT:=fun fuel cs x h hwt=>by
 obtain⟨xs,n,_,hxe,hl,hxs,hf⟩:=DataW.trod_struct Tryz.underlying67 h;rw[hxe] at hwt;have hl:cs.length=2:=hl.trans (by kernel_rfl)
 have hxs:xs.length=2:=hxs
 match cs,hl with
 | [c0,c1],_=>
  obtain⟨z0,a1,a2,a3⟩:=opensW_field Tryz.underlying67 hwt hf 0 _ rfl (by omega) (k:=1) (by kernel_rfl) opens_int.w
  obtain⟨z1,b1,b2,b3⟩:=opensW_field Tryz.underlying67 hwt hf 1 _ rfl (by omega) (k:=1) (by kernel_rfl) opens_int.w
  refine⟨(z0,z1),RelL.append a1 b1,fun u hu=>?_,a3,b3⟩
  simp only[List.mem_cons,List.not_mem_nil,or_false] at hu
  rcases hu with rfl | rfl
  ·exact a2 _ (List.mem_singleton.2 rfl)
  ·exact b2 _ (List.mem_singleton.2 rfl)
def QTs(l:List TermV):Prop:=(∀ a∈l,QT a)∧l.length≤maxLen∧l.length*16≤reachBytes
theorem opensW_terms:OpensW enc W 24 (fun l:List TermV=>[.sl .any 2 (rowsTm l)]) QTs:=
 opensW_slice Tryz.underlying24 (by kernel_rfl) (by kernel_rfl) (by decide) (fun _=>rfl) opensW_term
theorem opensW_str:OpensW enc W 9 (fun s:ByteArray=>[.str s]) (fun s=>s.size≤reachBytes):=fun fuel cs x h hw=>by
 obtain⟨s,rfl,hx,hs⟩:=DataW.trod_string Tryz.underlying9 h;refine⟨s,by simp only[RelL,Rel];exact⟨_,_,rfl,rfl,rfl⟩,fun u hu=>?_,?_⟩
 ·obtain rfl:u=.string s:=by simpa using hu
  rfl
 ·rw[hx] at hw;exact hw s.size (by simp[DataW.weights])
def QV(v:VarV):Prop:=v.1.size≤reachBytes∧okI v.2.1∧okI v.2.2
theorem opensW_var:OpensW enc W 49 rowV QV:=fun fuel cs x h hwt=>by
 obtain⟨xs,n,_,hxe,hl,hxs,hf⟩:=DataW.trod_struct Tryz.underlying49 h;rw[hxe] at hwt;have hl:cs.length=3:=hl.trans (by kernel_rfl)
 have hxs:xs.length=3:=hxs
 match cs,hl with
 | [c0,c1,c2],_=>
  obtain⟨z0,a1,a2,a3⟩:=opensW_field Tryz.underlying49 hwt hf 0 _ rfl (by omega) (k:=1) (by kernel_rfl) opensW_str
  obtain⟨z1,b1,b2,b3⟩:=opensW_field Tryz.underlying49 hwt hf 1 _ rfl (by omega) (k:=1) (by kernel_rfl) opens_int.w
  obtain⟨z2,d1,d2,d3⟩:=opensW_field Tryz.underlying49 hwt hf 2 _ rfl (by omega) (k:=1) (by kernel_rfl) opens_int.w
  refine⟨(z0,z1,z2),RelL.append a1 (RelL.append b1 d1),fun u hu=>?_,a3,b3,d3⟩
  simp only[List.mem_cons,List.not_mem_nil,or_false] at hu
  rcases hu with rfl | rfl | rfl
  ·exact a2 _ (List.mem_singleton.2 rfl)
  ·exact b2 _ (List.mem_singleton.2 rfl)
  ·exact d2 _ (List.mem_singleton.2 rfl)
def QVs(l:List VarV):Prop:=(∀ a∈l,QV a)∧l.length≤maxLen∧l.length*32≤reachBytes
theorem opensW_vars:OpensW enc W 22 (fun l:List VarV=>[.sl .any 3 (rowsV l)]) QVs:=
 opensW_slice Tryz.underlying22 (by kernel_rfl) (by kernel_rfl) (by decide) (fun _=>rfl) opensW_var
structure QC (c:ConV):Prop where
 i:okI c.kind∧okI c.op∧okI c.k∧okI c.v∧okI c.x∧okI c.y
 t:QTs c.terms
 xs:QI c.xs
 tb:QI c.table
 rw:(∀ a∈c.rows,QI a)∧c.rows.length≤maxLen∧c.rows.length*24≤reachBytes
theorem opensW_con:OpensW enc W 51 rowC QC:=fun fuel cs x h hwt=>by
 obtain⟨xs,n,_,hxe,hl,hxs,hf⟩:=DataW.trod_struct Tryz.underlying51 h;rw[hxe] at hwt;have hl:cs.length=10:=hl.trans (by kernel_rfl)
 have hxs:xs.length=10:=hxs
 match cs,hl with
 | [c0,c1,c2,c3,c4,c5,c6,c7,c8,c9],_=>
  obtain⟨z0,a1,a2,a3⟩:=opensW_field Tryz.underlying51 hwt hf 0 _ rfl (by omega) (k:=1) (by kernel_rfl) opens_int.w
  obtain⟨z1,b1,b2,b3⟩:=opensW_field Tryz.underlying51 hwt hf 1 _ rfl (by omega) (k:=1) (by kernel_rfl) opens_int.w
  obtain⟨z2,d1,d2,d3⟩:=opensW_field Tryz.underlying51 hwt hf 2 _ rfl (by omega) (k:=1) (by kernel_rfl) opensW_terms
  obtain⟨z3,e1,e2,e3⟩:=opensW_field Tryz.underlying51 hwt hf 3 _ rfl (by omega) (k:=1) (by kernel_rfl) opens_int.w
  obtain⟨z4,f1,f2,f3⟩:=opensW_field Tryz.underlying51 hwt hf 4 _ rfl (by omega) (k:=1) (by kernel_rfl) opens_int.w
  obtain⟨z5,g1,g2,g3⟩:=opensW_field Tryz.underlying51 hwt hf 5 _ rfl (by omega) (k:=1) (by kernel_rfl) opens_int.w
  obtain⟨z6,i1,i2,i3⟩:=opensW_field Tryz.underlying51 hwt hf 6 _ rfl (by omega) (k:=1) (by kernel_rfl) opens_int.w
  obtain⟨z7,j1,j2,j3⟩:=opensW_field Tryz.underlying51 hwt hf 7 _ rfl (by omega) (k:=1) (by kernel_rfl) opensW_ints
  obtain⟨z8,k1,k2,k3⟩:=opensW_field Tryz.underlying51 hwt hf 8 _ rfl (by omega) (k:=1) (by kernel_rfl) opensW_ints
  obtain⟨z9,l1,l2,l3⟩:=opensW_field Tryz.underlying51 hwt hf 9 _ rfl (by omega) (k:=1) (by kernel_rfl) opensW_lists
  refine⟨⟨z0,z1,z2,z3,z4,z5,z6,z7,z8,z9⟩,RelL.append a1 (RelL.append b1 (RelL.append d1 (RelL.append e1 (RelL.append f1 (RelL.append g1 (RelL.append i1 (RelL.append j1 (RelL.append k1 l1)))))))),fun u hu=>?_,⟨⟨a3,b3,e3,f3,g3,i3⟩,d3,j3,k3,l3⟩⟩
  simp only[List.mem_cons,List.not_mem_nil,or_false] at hu
  rcases hu with rfl | rfl | rfl | rfl | rfl | rfl | rfl | rfl | rfl | rfl
  ·exact a2 _ (List.mem_singleton.2 rfl)
  ·exact b2 _ (List.mem_singleton.2 rfl)
  ·exact d2 _ (List.mem_singleton.2 rfl)
  ·exact e2 _ (List.mem_singleton.2 rfl)
  ·exact f2 _ (List.mem_singleton.2 rfl)
  ·exact g2 _ (List.mem_singleton.2 rfl)
  ·exact i2 _ (List.mem_singleton.2 rfl)
  ·exact j2 _ (List.mem_singleton.2 rfl)
  ·exact k2 _ (List.mem_singleton.2 rfl)
  ·exact l2 _ (List.mem_singleton.2 rfl)
def QCs(l:List ConV):Prop:=(∀ a∈l,QC a)∧l.length≤maxLen∧l.length*144≤reachBytes
theorem opensW_cons:OpensW enc W 23 (fun l:List ConV=>[.sl .any 10 (rowsC l)]) QCs:=
 opensW_slice Tryz.underlying23 (by kernel_rfl) (by kernel_rfl) (by decide) (fun _=>rfl) opensW_con
structure QM (m:ModelV):Prop where
 v:QVs m.vars
 c:QCs m.cons
 g:QTs m.goal
theorem opensW_bool:OpensW enc W 4 (fun b:Bool=>[.bool b]) (fun _=>True):=fun fuel cs x h _=>by
 obtain⟨s,rfl,_⟩:=DataW.trod_bool Tryz.underlying4 h;refine⟨s,by simp only[RelL,Rel];exact⟨_,_,rfl,rfl,rfl⟩,fun u hu=>?_,trivial⟩
 obtain rfl:u=.bool s:=by simpa using hu
 rfl
theorem opensW_model:OpensW enc W 26 rowM QM:=fun fuel cs x h hwt=>by
 obtain⟨xs,n,_,hxe,hl,hxs,hf⟩:=DataW.trod_struct Tryz.underlying26 h;rw[hxe] at hwt;have hl:cs.length=4:=hl.trans (by kernel_rfl)
 have hxs:xs.length=4:=hxs
 match cs,hl with
 | [c0,c1,c2,c3],_=>
  obtain⟨z0,a1,a2,a3⟩:=opensW_field Tryz.underlying26 hwt hf 0 _ rfl (by omega) (k:=1) (by kernel_rfl) opensW_vars
  obtain⟨z1,b1,b2,b3⟩:=opensW_field Tryz.underlying26 hwt hf 1 _ rfl (by omega) (k:=1) (by kernel_rfl) opensW_cons
  obtain⟨z2,d1,d2,d3⟩:=opensW_field Tryz.underlying26 hwt hf 2 _ rfl (by omega) (k:=1) (by kernel_rfl) opensW_bool
  obtain⟨z3,e1,e2,e3⟩:=opensW_field Tryz.underlying26 hwt hf 3 _ rfl (by omega) (k:=1) (by kernel_rfl) opensW_terms
  refine⟨⟨z0,z1,z2,z3⟩,RelL.append a1 (RelL.append b1 (RelL.append d1 e1)),fun u hu=>?_,⟨a3,b3,e3⟩⟩
  simp only[List.mem_cons,List.not_mem_nil,or_false] at hu
  rcases hu with rfl | rfl | rfl | rfl
  ·exact a2 _ (List.mem_singleton.2 rfl)
  ·exact b2 _ (List.mem_singleton.2 rfl)
  ·exact d2 _ (List.mem_singleton.2 rfl)
  ·exact e2 _ (List.mem_singleton.2 rfl)
theorem QM.szc{m:ModelV}(h:QM m):SzC m:=
 have hr:reachBytes≤140737488355328:=by decide
 ⟨Nat.le_trans h.v.2.2 hr,Nat.le_trans h.c.2.2 hr,Nat.le_trans h.g.2.2 hr,fun c hc=>⟨Nat.le_trans (h.c.1 c hc).t.2.2 hr,Nat.le_trans (h.c.1 c hc).xs.2.2 hr,Nat.le_trans (h.c.1 c hc).tb.2.2 hr,Nat.le_trans (h.c.1 c hc).rw.2.2 hr,fun r hrr=>Nat.le_trans ((h.c.1 c hc).rw.1 r hrr).2.2 hr⟩⟩
theorem open_model{b0:Nat}{v:Value}{d:DataW H}{ps:List MemPlace}(hval:Value.okWide Tryz.prog W .any b0 26 v)(hd:DataW.Trod enc Tryz.prog W 0 (fun _=>true) true 26 v d ps)(hw:∀ n∈d.weights Tryz.prog 26,n≤reachBytes) :
 ∃ m:ModelV,Rel W (rdOf St.emp) (.ag (rowM m)) v∧QM m:=by
 obtain⟨cs,rfl,_⟩:=Go.WideShapes.okWide_struct Tryz.underlying26 hval;obtain⟨fuel,hf⟩:=hd;obtain⟨m,h1,h2,h3⟩:=opensW_model _ _ _ hf hw;exact⟨m,by simp only[Rel];exact⟨cs,rfl,h1,h2⟩,h3⟩
theorem open_con{b0:Nat}{v:Value}{d:DataW H}{ps:List MemPlace}(hval:Value.okWide Tryz.prog W .any b0 51 v)(hd:DataW.Trod enc Tryz.prog W 0 (fun _=>true) true 51 v d ps)(hw:∀ n∈d.weights Tryz.prog 51,n≤reachBytes) :
 ∃ c:ConV,Rel W (rdOf St.emp) (.ag (rowC c)) v∧QC c:=by
 obtain⟨cs,rfl,_⟩:=Go.WideShapes.okWide_struct Tryz.underlying51 hval;obtain⟨fuel,hf⟩:=hd;obtain⟨m,h1,h2,h3⟩:=opensW_con _ _ _ hf hw;exact⟨m,by simp only[Rel];exact⟨cs,rfl,h1,h2⟩,h3⟩
end
set_option maxHeartbeats 4000000
variable {G:Nat→Option (List AV)}
def cntA(m:ModelV):Int×Bool:=(IntKind.i64.wrap ((solsA m (conG m) holdsG).length:Int),(productV m (conG m) 100000).2)
theorem more_le(m:ModelV)(c:ConV):(!(cntA m).2 || (!(cntA (moreM m c)).2 || decide ((cntA (moreM m c)).1≤(cntA m).1)))=true:=by
 unfold cntA;dsimp only
 cases h1:(productV m (conG m) 100000).2 with
 | false=>rfl
 | true=>
   cases h2:(productV (moreM m c) (conG (moreM m c)) 100000).2 with
   | false=>rfl
   | true=>
     have g1:=sols_le (holdsF:=holdsG) h1
     have g2:=sols_le (holdsF:=holdsG) h2
     have g3:=sols_more h1 h2
     rw[wrap_i64 (by omega) (by omega),wrap_i64 (by omega) (by omega)]
     simpa using g3
theorem lawMore21_ok{mx:Int}(hM:G 1=some [.int .i64 mx])(hG:GS G)(hA:GAs G)(m:ModelV)(c:ConV)(hq:QM m)(hqc:QC c)(S:St) :
 Triple P (C G) 5 [.ag (rowM m),.ag (rowC c)] S fun o S'=>o=.ret (.bool true)∧S'=S:=by
 have hrb:reachBytes≤140737488351232:=by decide
 have hz:=hq.szc
 have hkn:=fun S=>known21_ok (G:=G) hM hG hA S
 have hcp:=fun S=>Copy_w (G:=G) m hz S
 have hfw:=fun S=>few_t (G:=G) m hz (fun v hv=>by have:=(hq.v.1 v hv).1;omega) S
 have hz2:SzC (moreM m c):=by
  have h2:=hq.c.2.2
  refine⟨hz.v,?_,hz.g,fun d hd=>?_⟩
  ·show(m.cons++[c]).length*144≤_
   rw[List.length_append,List.length_singleton];omega
  ·rcases List.mem_append.1 hd with hd | hd
   ·exact hz.l d hd
   ·obtain rfl:d=c:=by simpa using hd
    have hr:reachBytes≤140737488355328:=by decide
    exact⟨Nat.le_trans hqc.t.2.2 hr,Nat.le_trans hqc.xs.2.2 hr,Nat.le_trans hqc.tb.2.2 hr,Nat.le_trans hqc.rw.2.2 hr,fun r hrr=>Nat.le_trans (hqc.rw.1 r hrr).2.2 hr⟩
 have hfw2:=few_t (G:=G) (moreM m c) hz2 (fun v hv=>by have:=(hq.v.1 v hv).1;omega) St.emp
 have hk1:Know G m (conG m) holdsG:=know_of_fit hz (by have:=hz.v;omega)
 have hk2:Know G (moreM m c) (conG (moreM m c)) holdsG:=know_of_fit hz2 (by have:=hz2.v;omega)
 have hcm:=fun S=>Count_ok (G:=G) hk1 S
 have hcm2:=Count_ok (G:=G) hk2 St.emp
 have hres:=more_le m c
 have hfw3:=fun S=>few_t (G:=G) (moreM m c) hz2 (fun v hv=>by have:=(hq.v.1 v hv).1;omega) S
 have hcm3:∀ S,Triple P (C G) 11 [.ag (rowM (moreM m c))] S fun o S'=>o=.ret (.tu [.int .i64 (cntA (moreM m c)).1,.bool (cntA (moreM m c)).2])∧S'=S:=fun S=>Count_ok (G:=G) hk2 S
 have hf2:Triple P (C G) 7 [.ag (rowM (moreM m c))] St.emp fun o S'=>(∃ r,o=.ret r∧∃ b,r=.bool b)∧S'=St.emp:=hfw2.mono fun o S' ⟨⟨b,h⟩,h2⟩=>⟨⟨_,h,_,rfl⟩,h2⟩
 have hc2:Triple P (C G) 11 [.ag (rowM (moreM m c))] St.emp fun o S'=>(∃ r,o=.ret r∧r=.tu [.int .i64 (cntA (moreM m c)).1,.bool (cntA (moreM m c)).2])∧S'=St.emp:=hcm2.mono fun o S' ⟨h,h2⟩=>⟨⟨_,h,rfl⟩,h2⟩
 have hcm:∀ S,Triple P (C G) 11 [.ag (rowM m)] S fun o S'=>o=.ret (.tu [.int .i64 (cntA m).1,.bool (cntA m).2])∧S'=S:=hcm
 clear hfw2 hcm2 hk1 hk2 hz2;generalize cntA m=A at *;generalize cntA (moreM m c)=B at *;have hlc:=hq.c.2.2;have hlc2:m.cons.length≤maxLen:=hq.c.2.1;have z1:=hz.c;refine triple_of_awp (hT G) hm Tryz.func5 rfl (by decide +kernel) rfl (by decide +kernel) (by show 2≤_;decide +kernel) rfl ?_
 refine awp_seq2 fun K hK hQ=>?_
 conv=>whnf
 intro b2 hb2;conv=>whnf
 intro b3 hb3;conv=>whnf
 refine hK _ _ ?_;clear hK hQ K;have q3:((S.upd b2 (.obj 26 (rowM m))).upd b3 (.obj 51 (rowC c))) b3=_:=St.upd_same _ _ _;have q2:((S.upd b2 (.obj 26 (rowM m))).upd b3 (.obj 51 (rowC c))) b2=some (.obj 26 (rowM m)):=St.up hb3 (St.upd_same _ _ _);have hle:St.le S ((S.upd b2 (.obj 26 (rowM m))).upd b3 (.obj 51 (rowC c))):=St.le_upd' (St.le_upd' (St.le_refl S) hb2 _) hb3 _;change awp _ _ _ _ ((S.upd b2 (.obj 26 (rowM m))).upd b3 (.obj 51 (rowC c))) _;generalize (S.upd b2 (.obj 26 (rowM m))).upd b3 (.obj 51 (rowC c))=T at *;refine awp_seq2 fun K hK hQ=>?_
 conv=>whnf
 refine⟨_,_,q2,?_⟩;conv=>whnf
 refine(hfw _).mono ?_;rintro o T' ⟨⟨b,rfl⟩,rfl⟩
 cases b with
 | false=>
   conv=>whnf
   refine hQ _ _ _ (by simp) ?_
   clear hK hQ K;conv=>whnf
   exact⟨_,_,⟨rfl,rfl⟩,hle,AV.leS_refl _ _ _⟩
 | true=>
   conv=>whnf
   refine hK _ _ ?_;clear hK hQ K;refine awp_seq2 fun K hK hQ=>?_
   conv=>whnf
   refine(hkn _).mono ?_;rintro o T1 ⟨rfl,rfl⟩;conv=>whnf
   refine hK _ _ ?_;clear hK hQ K;refine awp_seq2 fun K hK hQ=>?_
   conv=>whnf
   refine⟨_,_,q2,?_⟩;conv=>whnf
   refine(hcp _).mono ?_;rintro o U (⟨hz0,rfl,rfl⟩ | ⟨bC,cap,cs,junk,rfl,hlU,hbC,hcs,hcr,hc1,hc2',hc3⟩)
   ·-- no constraint: the list is new
    have hmo:rowM (moreM m c)=[.sl .any 3 (rowsV m.vars),.sl .any 10 [rowC c],.bool m.hasGoal,.sl .any 2 (rowsTm m.goal)]:=by unfold rowM moreM;rw[hz0];rfl
    have hf1:∀ S,Triple P (C G) 7 [.ag (rowM (moreM m c))] S fun o S'=>(∃ r,o=.ret r∧∃ b,r=.bool b)∧S'=S:=fun S=>(hfw3 S).mono fun o S' ⟨⟨b,h⟩,h2⟩=>⟨⟨_,h,_,rfl⟩,h2⟩
    have hc1:∀ S,Triple P (C G) 11 [.ag (rowM (moreM m c))] S fun o S'=>(∃ r,o=.ret r∧r=.tu [.int .i64 B.1,.bool B.2])∧S'=S:=fun S=>(hcm3 S).mono fun o S' ⟨h,h2⟩=>⟨⟨_,h,rfl⟩,h2⟩
    rw[hmo] at hf1 hc1;conv=>whnf
    intro b5 hb5;conv=>whnf
    refine⟨_,_,St.upd_same _ _ _,?_⟩;conv=>whnf
    rw[St.upd_upd];refine hK _ _ ?_;clear hK hQ K;refine awp_seq2 fun K hK hQ=>?_
    conv=>whnf
    refine⟨_,_,St.upd_same _ _ _,?_⟩;conv=>whnf
    refine⟨_,_,St.up hb5 q3,?_⟩;conv=>whnf
    intro bb hbb;conv=>whnf
    refine⟨by show 1*144≤_;decide,fun bb' hbb'=>?_⟩
    conv=>whnf
    refine⟨_,_,St.up hbb' (St.up hbb (St.upd_same _ _ _)),?_⟩;conv=>whnf
    have hS5:S b5=none:=St.le_none hle hb5
    have hleB:=St.le_upd' (St.le_upd' (St.le_upd' hle hb5 (.obj 26 [.sl .any 3 (rowsV m.vars),.nils,.bool m.hasGoal,.sl .any 2 (rowsTm m.goal)])) hbb (.tip 51 10 1)) hbb' (.tip 51 10 1)
    have r2:(((U.upd b5 (.obj 26 [.sl .any 3 (rowsV m.vars),.nils,.bool m.hasGoal,.sl .any 2 (rowsTm m.goal)])).upd bb (.tip 51 10 1)).upd bb' (.tip 51 10 1)) b2=some (.obj 26 (rowM m)):=St.up hbb' (St.up hbb (St.up hb5 q2))
    have r5:(((U.upd b5 (.obj 26 [.sl .any 3 (rowsV m.vars),.nils,.bool m.hasGoal,.sl .any 2 (rowsTm m.goal)])).upd bb (.tip 51 10 1)).upd bb' (.tip 51 10 1)) b5=some (.obj 26 [.sl .any 3 (rowsV m.vars),.nils,.bool m.hasGoal,.sl .any 2 (rowsTm m.goal)]):=St.up hbb' (St.up hbb (St.upd_same _ _ _))
    change K .normal _ ((((U.upd b5 (.obj 26 [.sl .any 3 (rowsV m.vars),.nils,.bool m.hasGoal,.sl .any 2 (rowsTm m.goal)])).upd bb (.tip 51 10 1)).upd bb' (.tip 51 10 1)).upd b5 (.obj 26 [.sl .any 3 (rowsV m.vars),.sl (.own bb') 10 [rowC c],.bool m.hasGoal,.sl .any 2 (rowsTm m.goal)]));generalize ((U.upd b5 (.obj 26 [.sl .any 3 (rowsV m.vars),.nils,.bool m.hasGoal,.sl .any 2 (rowsTm m.goal)])).upd bb (.tip 51 10 1)).upd bb' (.tip 51 10 1)=V at *;have hleF:=St.le_upd hleB hS5 (.obj 26 [.sl .any 3 (rowsV m.vars),.sl (.own bb') 10 [rowC c],.bool m.hasGoal,.sl .any 2 (rowsTm m.goal)]);have n25:b2≠b5:=fun e=>by rw[e,r5] at r2;cases r2
    have v2:=(St.upd_ne V b5 (.obj 26 [.sl .any 3 (rowsV m.vars),.sl (.own bb') 10 [rowC c],.bool m.hasGoal,.sl .any 2 (rowsTm m.goal)]) b2 n25).trans r2
    have v5:=St.upd_same V b5 (.obj 26 [.sl .any 3 (rowsV m.vars),.sl (.own bb') 10 [rowC c],.bool m.hasGoal,.sl .any 2 (rowsTm m.goal)])
    generalize V.upd b5 (.obj 26 [.sl .any 3 (rowsV m.vars),.sl (.own bb') 10 [rowC c],.bool m.hasGoal,.sl .any 2 (rowsTm m.goal)])=W at *;have hfL:=fun S=>Triple.argsD (args:=[.ag [.sl .any 3 (rowsV m.vars),.sl (.own bb') 10 [rowC c],.bool m.hasGoal,.sl .any 2 (rowsTm m.goal)]]) (hf1 S) (by simp[AV.dlL,AV.dl,AV.dlR,AV.dlR_refl,AV.dlL_refl])
    have hcL:=fun S=>Triple.argsD (args:=[.ag [.sl .any 3 (rowsV m.vars),.sl (.own bb') 10 [rowC c],.bool m.hasGoal,.sl .any 2 (rowsTm m.goal)]]) (hc1 S) (by simp[AV.dlL,AV.dl,AV.dlR,AV.dlR_refl,AV.dlL_refl])
    -- v5 the argument lent,hfL _ the state's end
    refine hK _ _ ?_;clear hK hQ K;refine awp_seq2 fun K hK hQ=>?_
    conv=>whnf
    refine⟨_,_,v5,?_⟩;conv=>whnf
    refine(hfL _).mono ?_;rintro o T2 ⟨⟨r,rfl,⟨b,rfl⟩⟩,rfl⟩
    cases b with
    | false=>
      conv=>whnf
      refine hQ _ _ _ (by simp) ?_
      clear hK hQ K;conv=>whnf
      exact⟨_,_,⟨rfl,rfl⟩,hleF,AV.leS_refl _ _ _⟩
    | true=>
      conv=>whnf
      refine hK _ _ ?_;clear hK hQ K;refine awp_seq2 fun K hK hQ=>?_
      conv=>whnf
      refine⟨_,_,v2,?_⟩;conv=>whnf
      refine(hcm _).mono ?_;rintro o T3 ⟨rfl,rfl⟩;conv=>whnf
      refine hK _ _ ?_;clear hK hQ K;refine awp_seq2 fun K hK hQ=>?_
      conv=>whnf
      refine⟨_,_,v5,?_⟩;conv=>whnf
      refine(hcL _).mono ?_;rintro o T4 ⟨⟨r,rfl,hr⟩,rfl⟩;subst hr;conv=>whnf
      refine hK _ _ ?_;clear hK hQ K;obtain⟨a1,a2⟩:=A;obtain⟨b1,b2⟩:=B;dsimp only at hres
      cases a2 with
      | false=>
        conv=>whnf
        exact⟨_,_,⟨rfl,rfl⟩,hleF,AV.leS_refl _ _ _⟩
      | true=>
        cases b2 with
        | false=>
          conv=>whnf
          exact⟨_,_,⟨rfl,rfl⟩,hleF,AV.leS_refl _ _ _⟩
        | true=>
          have hres:decide (b1≤a1)=true:=hres
          conv=>whnf
          exact⟨_,_,⟨by rw[hres],rfl⟩,hleF,AV.leS_refl _ _ _⟩
   ·-- the copy's own list
    have p2:=hlU b2 _ q2
    have p3:=hlU b3 _ q3
    have hleU:=St.le_trans hle hlU
    have nC5:∀ {b5},U b5=none→bC≠b5:=fun h e=>by rw[← e,hcs] at h;cases h
    conv=>whnf
    intro b5 hb5;conv=>whnf
    refine⟨_,_,St.upd_same _ _ _,?_⟩;conv=>whnf
    rw[St.upd_upd];refine hK _ _ ?_;clear hK hQ K;refine awp_seq2 fun K hK hQ=>?_
    conv=>whnf
    refine⟨_,_,St.upd_same _ _ _,?_⟩;conv=>whnf
    refine⟨_,_,St.up hb5 p3,?_⟩;conv=>whnf
    intro bb hbb;conv=>whnf
    refine⟨cs,St.up hbb (St.up hb5 hcs),⟨hc1,hc3,hc2',?_⟩,split_of (fun hin=>?_) (fun hin=>?_)⟩
    ·show(m.cons.length+1)*144≤_;omega
    ·have hin:m.cons.length+1≤cap:=of_decide_eq_true hin
     have hS5:S b5=none:=St.le_none hleU hb5
     have n5C:b5≠bC:=fun e=>by rw[e,hcs] at hb5;cases hb5
     have hb0:S bC=none:=St.le_none hle hbC
     have hmono:∀ x cells,U x=some (.obj 27 cells)→((U.upd b5 (.obj 26 [.sl .any 3 (rowsV m.vars),.arr bC 0 m.cons.length cap,.bool m.hasGoal,.sl .any 2 (rowsTm m.goal)])).upd bb (.tip 51 10 1)) x=some (.obj 27 cells):=fun x cells hx=>St.up hbb (St.up hb5 hx)
     have hMA:=MoreAt.place (c:=c) (St.le_upd' (St.le_upd' hleU hb5 _) hbb _) hb0 (St.up hbb (St.up hb5 hcs)) ((hcr.low hle).mono hmono) hin hc2' hc3
     have r5:(((U.upd b5 (.obj 26 [.sl .any 3 (rowsV m.vars),.arr bC 0 m.cons.length cap,.bool m.hasGoal,.sl .any 2 (rowsTm m.goal)])).upd bb (.tip 51 10 1)).upd bC (.obj 51 (setRange cs (m.cons.length*10) (rowC c)))) b5=_:=St.ov n5C (St.up hbb (St.upd_same _ _ _))
     have r2:(((U.upd b5 (.obj 26 [.sl .any 3 (rowsV m.vars),.arr bC 0 m.cons.length cap,.bool m.hasGoal,.sl .any 2 (rowsTm m.goal)])).upd bb (.tip 51 10 1)).upd bC (.obj 51 (setRange cs (m.cons.length*10) (rowC c)))) b2=some (.obj 26 (rowM m)):=St.ov (fun e=>by rw[e,hcs] at p2;cases p2) (St.up hbb (St.up hb5 p2))
     conv=>whnf
     -- bC the list's block,cap its room,(((U.upd b5 (.obj 26 [.sl .any 3 (rowsV m.vars),.arr bC 0 m.cons.length cap,.bool m.hasGoal,.sl .any 2 (rowsTm m.goal)])).upd bb (.tip 51 10 1)).upd bC (.obj 51 (setRange cs (m.cons.length*10) (rowC c)))) the state
     refine⟨_,_,r5,?_⟩;conv=>whnf
     change K .normal _ (((((U.upd b5 (.obj 26 [.sl .any 3 (rowsV m.vars),.arr bC 0 m.cons.length cap,.bool m.hasGoal,.sl .any 2 (rowsTm m.goal)])).upd bb (.tip 51 10 1)).upd bC (.obj 51 (setRange cs (m.cons.length*10) (rowC c))))).upd b5 (.obj 26 [.sl .any 3 (rowsV m.vars),.arr bC 0 (m.cons.length+1) cap,.bool m.hasGoal,.sl .any 2 (rowsTm m.goal)]));generalize (((U.upd b5 (.obj 26 [.sl .any 3 (rowsV m.vars),.arr bC 0 m.cons.length cap,.bool m.hasGoal,.sl .any 2 (rowsTm m.goal)])).upd bb (.tip 51 10 1)).upd bC (.obj 51 (setRange cs (m.cons.length*10) (rowC c))))=V at *;have hMA:=hMA.upd (ys:=[.sl .any 3 (rowsV m.vars),.arr bC 0 (m.cons.length+1) cap,.bool m.hasGoal,.sl .any 2 (rowsTm m.goal)]) hS5 r5 n5C;have n25:b2≠b5:=fun e=>by rw[e,r5] at r2;cases r2
     have v2:=(St.upd_ne V b5 (.obj 26 [.sl .any 3 (rowsV m.vars),.arr bC 0 (m.cons.length+1) cap,.bool m.hasGoal,.sl .any 2 (rowsTm m.goal)]) b2 n25).trans r2
     have v5:=St.upd_same V b5 (.obj 26 [.sl .any 3 (rowsV m.vars),.arr bC 0 (m.cons.length+1) cap,.bool m.hasGoal,.sl .any 2 (rowsTm m.goal)])
     have hl:=hMA.lend
     have hleF:=hMA.le
     have hfL:=fun h=>Triple.lendQ hf2 hl h
     have hcL:=fun h=>Triple.lendQ hc2 hl h
     have hfL:=hfL fun r ⟨b,hr⟩=>hr ▸ FlatV.bool b
     have hcL:=hcL fun r hr=>hr ▸ FlatV.ints _ _ _
     clear hl hMA hf2 hc2;generalize V.upd b5 (.obj 26 [.sl .any 3 (rowsV m.vars),.arr bC 0 (m.cons.length+1) cap,.bool m.hasGoal,.sl .any 2 (rowsTm m.goal)])=W at *
     -- v5 the argument lent,hfL the state's end
     refine hK _ _ ?_;clear hK hQ K;refine awp_seq2 fun K hK hQ=>?_
     conv=>whnf
     refine⟨_,_,v5,?_⟩;conv=>whnf
     refine(hfL).mono ?_;rintro o T2 ⟨⟨r,rfl,⟨b,rfl⟩⟩,rfl⟩
     cases b with
     | false=>
       conv=>whnf
       refine hQ _ _ _ (by simp) ?_
       clear hK hQ K;conv=>whnf
       exact⟨_,_,⟨rfl,rfl⟩,hleF,AV.leS_refl _ _ _⟩
     | true=>
       conv=>whnf
       refine hK _ _ ?_;clear hK hQ K;refine awp_seq2 fun K hK hQ=>?_
       conv=>whnf
       refine⟨_,_,v2,?_⟩;conv=>whnf
       refine(hcm _).mono ?_;rintro o T3 ⟨rfl,rfl⟩;conv=>whnf
       refine hK _ _ ?_;clear hK hQ K;refine awp_seq2 fun K hK hQ=>?_
       conv=>whnf
       refine⟨_,_,v5,?_⟩;conv=>whnf
       refine(hcL).mono ?_;rintro o T4 ⟨⟨r,rfl,hr⟩,rfl⟩;subst hr;conv=>whnf
       refine hK _ _ ?_;clear hK hQ K;obtain⟨a1,a2⟩:=A;obtain⟨b1,b2⟩:=B;dsimp only at hres
       cases a2 with
       | false=>
         conv=>whnf
         exact⟨_,_,⟨rfl,rfl⟩,hleF,AV.leS_refl _ _ _⟩
       | true=>
         cases b2 with
         | false=>
           conv=>whnf
           exact⟨_,_,⟨rfl,rfl⟩,hleF,AV.leS_refl _ _ _⟩
         | true=>
           have hres:decide (b1≤a1)=true:=hres
           conv=>whnf
           exact⟨_,_,⟨by rw[hres],rfl⟩,hleF,AV.leS_refl _ _ _⟩
    ·intro bn capn hbn hcn1 hcn2;have hS5:S b5=none:=St.le_none hleU hb5;have hmono:∀ x cells,U x=some (.obj 27 cells)→((U.upd b5 (.obj 26 [.sl .any 3 (rowsV m.vars),.arr bC 0 m.cons.length cap,.bool m.hasGoal,.sl .any 2 (rowsTm m.goal)])).upd bb (.tip 51 10 1)) x=some (.obj 27 cells):=fun x cells hx=>St.up hbb (St.up hb5 hx)
     have hcl:m.cons.length*10≤cs.length:=Nat.le_trans (Nat.mul_le_mul_right _ hc1) hc3
     have hMA:=MoreAt.moved (c:=c) (cap:=cap) (z:=mulL 0 (cellsOf (ofV ((C G).T 51).zero)) (capn-(m.cons.length+1))) (St.le_upd' (St.le_upd' hleU hb5 _) hbb _) (St.up hbb (St.up hb5 hcs)) ((hcr.low hle).mono hmono) hcl hbn hcn1 hcn2
     have h5:((U.upd b5 (.obj 26 [.sl .any 3 (rowsV m.vars),.arr bC 0 m.cons.length cap,.bool m.hasGoal,.sl .any 2 (rowsTm m.goal)])).upd bb (.tip 51 10 1)) b5=some (.obj 26 [.sl .any 3 (rowsV m.vars),.arr bC 0 m.cons.length cap,.bool m.hasGoal,.sl .any 2 (rowsTm m.goal)]):=St.up hbb (St.upd_same _ _ _)
     have n5C:b5≠bn:=St.ne_of hbn h5
     have r5:(((U.upd b5 (.obj 26 [.sl .any 3 (rowsV m.vars),.arr bC 0 m.cons.length cap,.bool m.hasGoal,.sl .any 2 (rowsTm m.goal)])).upd bb (.tip 51 10 1)).upd bn (.obj 51 (cs.take (m.cons.length*10)++(rowC c++mulL 0 (cellsOf (ofV ((C G).T 51).zero)) (capn-(m.cons.length+1)))))) b5=_:=St.ov n5C h5
     have r2:(((U.upd b5 (.obj 26 [.sl .any 3 (rowsV m.vars),.arr bC 0 m.cons.length cap,.bool m.hasGoal,.sl .any 2 (rowsTm m.goal)])).upd bb (.tip 51 10 1)).upd bn (.obj 51 (cs.take (m.cons.length*10)++(rowC c++mulL 0 (cellsOf (ofV ((C G).T 51).zero)) (capn-(m.cons.length+1)))))) b2=some (.obj 26 (rowM m)):=St.up hbn (St.up hbb (St.up hb5 p2))
     conv=>whnf
     -- bn the list's block,capn its room,(((U.upd b5 (.obj 26 [.sl .any 3 (rowsV m.vars),.arr bC 0 m.cons.length cap,.bool m.hasGoal,.sl .any 2 (rowsTm m.goal)])).upd bb (.tip 51 10 1)).upd bn (.obj 51 (cs.take (m.cons.length*10)++(rowC c++mulL 0 (cellsOf (ofV ((C G).T 51).zero)) (capn-(m.cons.length+1)))))) the state
     refine⟨_,_,r5,?_⟩;conv=>whnf
     change K .normal _ (((((U.upd b5 (.obj 26 [.sl .any 3 (rowsV m.vars),.arr bC 0 m.cons.length cap,.bool m.hasGoal,.sl .any 2 (rowsTm m.goal)])).upd bb (.tip 51 10 1)).upd bn (.obj 51 (cs.take (m.cons.length*10)++(rowC c++mulL 0 (cellsOf (ofV ((C G).T 51).zero)) (capn-(m.cons.length+1))))))).upd b5 (.obj 26 [.sl .any 3 (rowsV m.vars),.arr bn 0 (m.cons.length+1) capn,.bool m.hasGoal,.sl .any 2 (rowsTm m.goal)]));generalize (((U.upd b5 (.obj 26 [.sl .any 3 (rowsV m.vars),.arr bC 0 m.cons.length cap,.bool m.hasGoal,.sl .any 2 (rowsTm m.goal)])).upd bb (.tip 51 10 1)).upd bn (.obj 51 (cs.take (m.cons.length*10)++(rowC c++mulL 0 (cellsOf (ofV ((C G).T 51).zero)) (capn-(m.cons.length+1))))))=V at *;have hMA:=hMA.upd (ys:=[.sl .any 3 (rowsV m.vars),.arr bn 0 (m.cons.length+1) capn,.bool m.hasGoal,.sl .any 2 (rowsTm m.goal)]) hS5 r5 n5C;have n25:b2≠b5:=fun e=>by rw[e,r5] at r2;cases r2
     have v2:=(St.upd_ne V b5 (.obj 26 [.sl .any 3 (rowsV m.vars),.arr bn 0 (m.cons.length+1) capn,.bool m.hasGoal,.sl .any 2 (rowsTm m.goal)]) b2 n25).trans r2
     have v5:=St.upd_same V b5 (.obj 26 [.sl .any 3 (rowsV m.vars),.arr bn 0 (m.cons.length+1) capn,.bool m.hasGoal,.sl .any 2 (rowsTm m.goal)])
     have hl:=hMA.lend
     have hleF:=hMA.le
     have hfL:=fun h=>Triple.lendQ hf2 hl h
     have hcL:=fun h=>Triple.lendQ hc2 hl h
     have hfL:=hfL fun r ⟨b,hr⟩=>hr ▸ FlatV.bool b
     have hcL:=hcL fun r hr=>hr ▸ FlatV.ints _ _ _
     clear hl hMA hf2 hc2;generalize V.upd b5 (.obj 26 [.sl .any 3 (rowsV m.vars),.arr bn 0 (m.cons.length+1) capn,.bool m.hasGoal,.sl .any 2 (rowsTm m.goal)])=W at *
     -- v5 the argument lent,hfL the state's end
     refine hK _ _ ?_;clear hK hQ K;refine awp_seq2 fun K hK hQ=>?_
     conv=>whnf
     refine⟨_,_,v5,?_⟩;conv=>whnf
     refine(hfL).mono ?_;rintro o T2 ⟨⟨r,rfl,⟨b,rfl⟩⟩,rfl⟩
     cases b with
     | false=>
       conv=>whnf
       refine hQ _ _ _ (by simp) ?_
       clear hK hQ K;conv=>whnf
       exact⟨_,_,⟨rfl,rfl⟩,hleF,AV.leS_refl _ _ _⟩
     | true=>
       conv=>whnf
       refine hK _ _ ?_;clear hK hQ K;refine awp_seq2 fun K hK hQ=>?_
       conv=>whnf
       refine⟨_,_,v2,?_⟩;conv=>whnf
       refine(hcm _).mono ?_;rintro o T3 ⟨rfl,rfl⟩;conv=>whnf
       refine hK _ _ ?_;clear hK hQ K;refine awp_seq2 fun K hK hQ=>?_
       conv=>whnf
       refine⟨_,_,v5,?_⟩;conv=>whnf
       refine(hcL).mono ?_;rintro o T4 ⟨⟨r,rfl,hr⟩,rfl⟩;subst hr;conv=>whnf
       refine hK _ _ ?_;clear hK hQ K;obtain⟨a1,a2⟩:=A;obtain⟨b1,b2⟩:=B;dsimp only at hres
       cases a2 with
       | false=>
         conv=>whnf
         exact⟨_,_,⟨rfl,rfl⟩,hleF,AV.leS_refl _ _ _⟩
       | true=>
         cases b2 with
         | false=>
           conv=>whnf
           exact⟨_,_,⟨rfl,rfl⟩,hleF,AV.leS_refl _ _ _⟩
         | true=>
           have hres:decide (b1≤a1)=true:=hres
           conv=>whnf
           exact⟨_,_,⟨by rw[hres],rfl⟩,hleF,AV.leS_refl _ _ _⟩
end Go.Proofs.YtjpboanohpaibaaGreatDoor.Aw

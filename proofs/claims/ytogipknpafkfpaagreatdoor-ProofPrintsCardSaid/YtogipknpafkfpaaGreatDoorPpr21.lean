/- The entry of a law's walk where it is handed lists: what an argument reads as, in the abstract walk's words. Steps. No c -/
import Derived.Test.YtogipknpafkfpaaGreatDoorPpr20
import Derived.Test.YtogipknpafkfpaaGreatDoorPpr15
import Derived.ProofKit
import Derived.OpenShut
set_option linter.all false
set_option maxRecDepth 100000
namespace Go.Proofs.YtogipknpafkfpaaGreatDoor.Aw
open Go Go.RowKit
section
variable {H:Type} {enc:TypeId×Value→H} {W:World}
def Opens(enc:TypeId×Value→H)(W:World)(t:TypeId){α:Type}(row:α→List AV)(Q:α→Prop):Prop:=
 ∀ (fuel:Nat) (cs:List Value) (x:DataW H×List MemPlace),DataW.trod enc Tryz.prog W 0 (fun _=>true) true fuel t cs=some x→∃ a:α,RelL W (rdOf St.emp) (row a) cs∧(∀ u∈cs,u.oneCell'=true)∧Q a
theorem opens_str:Opens enc W 9 (fun s:ByteArray=>[.str s]) (fun s=>s.size≤maxLen):=fun fuel cs x h=>by
 obtain⟨s,rfl,_,hs⟩:=DataW.trod_string Tryz.underlying9 h;refine⟨s,by simp only[RelL,Rel];exact⟨_,_,rfl,rfl,rfl⟩,fun u hu=>?_,hs⟩
 obtain rfl:u=.string s:=by simpa using hu
 rfl
theorem opens_int:Opens enc W 3 (fun n:Int=>[.int .i64 n]) okI:=fun fuel cs x h=>by
 obtain⟨n,rfl,_,hw⟩:=DataW.trod_int Tryz.underlying3 h;refine⟨n,by simp only[RelL,Rel];exact⟨_,_,rfl,rfl,rfl⟩,fun u hu=>?_,?_⟩
 ·obtain rfl:u=.int .i64 n:=by simpa using hu
  rfl
 ·simp only[Lit.wf,Bool.and_eq_true,decide_eq_true_eq] at hw;exact hw
theorem cells_at{k:Nat}{a:Addr}{cs:List Value}(h:W.cells? 0 a k=some cs):cs.length=k∧∀ j,j<k→W.cell? (a.add j)=cs[j]?:=by
 unfold World.cells? at h;rw[if_pos (Nat.zero_le _)] at h;refine⟨by simpa using mapM_some_length h,fun j hj=>mapM_some_get h j j (by simp[hj])⟩
theorem exists_list{β:Type}{R:Nat→β→Prop}:∀ n:Nat,(∀ i,i<n→∃ b,R i b)→∃ l:List β,l.length=n∧∀ i b,l[i]? = some b→R i b
 | 0,_=>⟨[],rfl,fun i b h=>by simp at h⟩
 | n+1,h=>by
   obtain⟨l,hl,hr⟩:=exists_list n fun i hi=>h i (by omega)
   obtain⟨b,hb⟩:=h n (by omega)
   refine⟨l++[b],by simp[hl],fun i c hc=>?_⟩
   by_cases hi:i<l.length
   ·rw[List.getElem?_append_left hi] at hc;exact hr i c hc
   ·rw[List.getElem?_append_right (by omega)] at hc
    have:i=n:=by
     by_cases e:i-l.length=0
     ·omega
     ·rw[List.getElem?_eq_none (by simp;omega)] at hc;cases hc
    subst this;rw[hl,Nat.sub_self] at hc
    cases hc
    exact hb
theorem rows_of{α:Type}{row:α→List AV}{k b:Nat}:∀ (L:List (α×List Value)) (off:Nat),
 (∀ i p,L[i]? = some p→(∀ j,j<k→W.cell? ⟨b,off+i*k+j,none⟩=p.2[j]?)∧p.2.length=k∧(row p.1).length=k∧RelL W (rdOf St.emp) (row p.1) p.2∧∀ u∈p.2,u.oneCell'=true)→
 RelRows W (rdOf St.emp) k b off (L.map fun p=>row p.1)
 | [],off,h=>by simp[RelRows]
 | p::L,off,h=>by
   simp only[List.map_cons,RelRows];obtain⟨h1,h2,h3,h4,h5⟩:=h 0 p rfl;refine⟨⟨h3,RelAt.of_cells h4 (fun i v hv=>?_) h5 fun i hi=>trivial⟩,rows_of L (off+k) fun i q hq=>?_⟩
   ·have hi:i<k:=by
     rcases Nat.lt_or_ge i k with h | h
     ·exact h
     ·rw[List.getElem?_eq_none (by omega)] at hv;cases hv
    have:=h1 i hi
    rw[hv] at this
    simpa using this
   ·obtain⟨g1,g2,g3,g4,g5⟩:=h (i+1) q (by simpa using hq)
    refine⟨fun j hj=>?_,g2,g3,g4,g5⟩
    have:=g1 j hj
    rw[show off+(i+1)*k+j=off+k+i*k+j by rw[Nat.succ_mul];omega] at this
    exact this
theorem spot_none{a:Addr}{v:Value}(h:W.cell? a=some v):a=⟨a.block,a.off,none⟩:=by
 obtain⟨b,off,sp⟩:=a;unfold World.cell? at h;dsimp only at h
 split at h
 ·cases sp with
  | none=>rfl
  | some s=>simp at h
 ·cases h
theorem opens_slice{t e:TypeId}{k:Nat}{α:Type}{row:α→List AV}{Q:α→Prop}(ht:Tryz.prog.underlying t=some (.slice e))(hc:Tryz.prog.cellsOf e=k)(hk:0<k)(hrow:∀ a,(row a).length=k)(h:Opens enc W e row Q) :
 Opens enc W t (fun l:List α=>[.sl .any k (l.map row)]) (fun l=>(∀ a∈l,Q a)∧l.length≤maxLen):=fun fuel cs x hx=>by
 rcases DataW.trod_slice ht hx with ⟨rfl,_⟩ | ⟨a,len,cap,elems,rest,n,_,rfl,_,_,hlc,hcm,hel,helem,hsp,_⟩
 ·refine⟨[],?_,fun u hu=>?_,by simp,by simp⟩
  ·simp only[RelL,Rel];exact⟨_,_,rfl,.inl ⟨rfl,rfl,.inl rfl⟩,rfl⟩
  ·obtain rfl:u=.slice none 0 0:=by simpa using hu
   rfl
 ·rw[hc] at helem hsp;have hone:∀ u∈[Value.slice (some a) len cap],u.oneCell'=true:=fun u hu=>by
   obtain rfl:u=.slice (some a) len cap:=by simpa using hu
   rfl
  have hspot:0<cap→a=⟨a.block,a.off,none⟩:=fun hcap=>by
   have hfirst:∃ cs y,W.cells? 0 (a.add 0) k=some cs∧DataW.trod enc Tryz.prog W 0 (fun _=>true) true n e cs=some y:=by
    by_cases hl:0<len
    ·have:=helem 0 hl
     rw[List.getElem?_eq_getElem (by omega),Option.bind_eq_some_iff] at this
     obtain⟨cs,h1,h2⟩:=this;exact⟨cs,_,by simpa using h1,h2⟩
    ·obtain⟨r1,r2⟩:=hsp rfl;have:=r2 0 (by omega)
     rw[List.getElem?_eq_getElem (by omega),Option.bind_eq_some_iff] at this
     obtain⟨cs,h1,h2⟩:=this;exact⟨cs,_,by simpa [show len=0 by omega] using h1,h2⟩
   obtain⟨cs,y,h1,_⟩:=hfirst;obtain⟨c1,c2⟩:=cells_at h1;have:=c2 0 hk;rw[List.getElem?_eq_getElem (by omega)] at this
   exact spot_none (by simpa [Addr.add] using this)
  by_cases hcap:cap=0
  ·have hlen:len=0:=by omega
   subst hcap hlen;refine⟨[],?_,hone,by simp,by simp⟩
   simp only[RelL,Rel];exact⟨_,_,rfl,.inl ⟨rfl,rfl,.inr ⟨rfl,a,rfl⟩⟩,rfl⟩
  ·have hs:=hspot (by omega)
   obtain⟨b,off,sp⟩:=a;simp only[Addr.mk.injEq,true_and] at hs;subst hs;obtain⟨L,hL,hR⟩:=exists_list (β:=α×List Value) (R:=fun i p=>W.cells? 0 ((⟨b,off,none⟩:Addr).add (i*k)) k=some p.2∧RelL W (rdOf St.emp) (row p.1) p.2∧(∀ u∈p.2,u.oneCell'=true)∧Q p.1) len fun i hi=>by
    have:=helem i hi
    rw[List.getElem?_eq_getElem (by omega),Option.bind_eq_some_iff] at this
    obtain⟨cs,h1,h2⟩:=this;obtain⟨a,a1,a2,a3⟩:=h _ _ _ h2;exact⟨(a,cs),h1,a1,a2,a3⟩
   refine⟨L.map (·.1),?_,hone,⟨fun x hx=>?_,by rw[List.length_map];omega⟩⟩
   ·simp only[RelL,Rel];refine⟨_,_,rfl,.inr ⟨b,off,cap,by simp[hL],by simpa [hL] using hlc,hcm,trivial,?_⟩,rfl⟩
    rw[List.map_map];refine rows_of L off fun i p hp=>?_
    obtain⟨r1,r2,r3,r4⟩:=hR i p hp;obtain⟨c1,c2⟩:=cells_at r1;refine⟨fun j hj=>?_,c1,hrow _,r2,r3⟩
    have:=c2 j hj
    rw[Addr.add_lit,Addr.add_lit] at this;exact this
   ·obtain⟨p,hp,rfl⟩:=List.mem_map.1 hx;obtain⟨i,hi⟩:=List.getElem?_of_mem hp;exact(hR i p hi).2.2.2
theorem opens_field{fs:Array Field}{n:Nat}{cs:List Value}{xs:List (DataW H×List MemPlace)}(hf:∀ (i:Nat) (f:Field),fs[i]? = some f→DataW.trod enc Tryz.prog W 0 (fun _=>true) true n f.type ((cs.drop f.offset).take (Tryz.prog.cellsOf f.type))=xs[i]?)
 (i:Nat) (f:Field) (hfi:fs[i]? = some f) (hi:i<xs.length) {k:Nat} (hk:Tryz.prog.cellsOf f.type=k) {α:Type} {row:α→List AV} {Q:α→Prop} (ho:Opens enc W f.type row Q) :
 ∃ a,RelL W (rdOf St.emp) (row a) ((cs.drop f.offset).take k)∧(∀ u∈(cs.drop f.offset).take k,u.oneCell'=true)∧Q a:=by
 have h:=hf i f hfi
 rw[hk,List.getElem?_eq_getElem hi] at h;exact ho _ _ _ h
theorem opens_strs:Opens enc W 52 (fun l:List ByteArray=>[.sl .any 1 (rowsS l)]) (fun l=>(∀ s∈l,s.size≤maxLen)∧l.length≤maxLen):=
 opens_slice Tryz.underlying52 (by kernel_rfl) (by decide) (fun _=>rfl) opens_str
theorem opens_ints:Opens enc W 29 (fun l:List Int=>[.sl .any 1 (rowsI l)]) (fun l=>(∀ s∈l,okI s)∧l.length≤maxLen):=
 opens_slice Tryz.underlying29 (by kernel_rfl) (by decide) (fun _=>rfl) opens_int
theorem opens_op:Opens enc W 85 (fun o:Int×ByteArray×Int=>[.int .i64 o.1,.str o.2.1,.int .i64 o.2.2]) (fun o=>okI o.2.2∧o.2.1.size≤maxLen):=fun fuel cs x h=>by
 obtain⟨xs,n,_,_,hl,hxs,hf⟩:=DataW.trod_struct Tryz.underlying85 h;have hl:cs.length=3:=hl.trans (by kernel_rfl)
 have hxs:xs.length=3:=hxs
 match cs,hl with
 | [c0,c1,c2],_=>
  obtain⟨a,a1,a2,a3⟩:=opens_field hf 0 _ rfl (by omega) (k:=1) (by kernel_rfl) opens_int
  obtain⟨b,b1,b2,b3⟩:=opens_field hf 1 _ rfl (by omega) (k:=1) (by kernel_rfl) opens_str
  obtain⟨c,c1,c2,c3⟩:=opens_field hf 2 _ rfl (by omega) (k:=1) (by kernel_rfl) opens_int
  refine⟨(a,b,c),RelL.append a1 (RelL.append b1 c1),fun u hu=>?_,c3,b3⟩
  simp only[List.mem_cons,List.not_mem_nil,or_false] at hu
  rcases hu with rfl | rfl | rfl
  ·exact a2 _ (List.mem_singleton.2 rfl)
  ·exact b2 _ (List.mem_singleton.2 rfl)
  ·exact c2 _ (List.mem_singleton.2 rfl)
theorem opens_piece:Opens enc W 126 (fun o:ByteArray×Int=>[.str o.1,.int .i64 o.2]) (fun o=>okI o.2∧o.1.size≤maxLen):=fun fuel cs x h=>by
 obtain⟨xs,n,_,_,hl,hxs,hf⟩:=DataW.trod_struct Tryz.underlying126 h;have hl:cs.length=2:=hl.trans (by kernel_rfl)
 have hxs:xs.length=2:=hxs
 match cs,hl with
 | [c0,c1],_=>
  obtain⟨b,b1,b2,b3⟩:=opens_field hf 0 _ rfl (by omega) (k:=1) (by kernel_rfl) opens_str
  obtain⟨c,c1,c2,c3⟩:=opens_field hf 1 _ rfl (by omega) (k:=1) (by kernel_rfl) opens_int
  refine⟨(b,c),RelL.append b1 c1,fun u hu=>?_,c3,b3⟩
  simp only[List.mem_cons,List.not_mem_nil,or_false] at hu
  rcases hu with rfl | rfl
  ·exact b2 _ (List.mem_singleton.2 rfl)
  ·exact c2 _ (List.mem_singleton.2 rfl)
theorem opens_ops:Opens enc W 48 (fun l:List (Int×ByteArray×Int)=>[.sl .any 3 (rowsO l)]) (fun l=>(∀ o∈l,okI o.2.2∧o.2.1.size≤maxLen)∧l.length≤maxLen):=
 opens_slice Tryz.underlying48 (by kernel_rfl) (by decide) (fun _=>rfl) opens_op
theorem opens_pieces:Opens enc W 49 (fun l:List (ByteArray×Int)=>[.sl .any 2 (rowsP l)]) (fun l=>(∀ o∈l,okI o.2∧o.1.size≤maxLen)∧l.length≤maxLen):=
 opens_slice Tryz.underlying49 (by kernel_rfl) (by decide) (fun _=>rfl) opens_piece
theorem opens_row:Opens enc W 51 (fun r:List (ByteArray×Int)×ByteArray=>[.sl .any 2 (rowsP r.1),.str r.2]) (fun r=>(∀ o∈r.1,okI o.2∧o.1.size≤maxLen)∧r.2.size≤maxLen):=fun fuel cs x h=>by
 obtain⟨xs,n,_,_,hl,hxs,hf⟩:=DataW.trod_struct Tryz.underlying51 h;have hl:cs.length=2:=hl.trans (by kernel_rfl)
 have hxs:xs.length=2:=hxs
 match cs,hl with
 | [c0,c1],_=>
  obtain⟨b,b1,b2,b3⟩:=opens_field hf 0 _ rfl (by omega) (k:=1) (by kernel_rfl) opens_pieces
  obtain⟨c,c1,c2,c3⟩:=opens_field hf 1 _ rfl (by omega) (k:=1) (by kernel_rfl) opens_str
  refine⟨(b,c),RelL.append b1 c1,fun u hu=>?_,b3.1,c3⟩
  simp only[List.mem_cons,List.not_mem_nil,or_false] at hu
  rcases hu with rfl | rfl
  ·exact b2 _ (List.mem_singleton.2 rfl)
  ·exact c2 _ (List.mem_singleton.2 rfl)
theorem opens_step:Opens enc W 54 stepR (fun v=>SzStep v∧IntStep v):=fun fuel cs x h=>by
 obtain⟨xs,n,_,_,hl,hxs,hf⟩:=DataW.trod_struct Tryz.underlying54 h;have hl:cs.length=10:=hl.trans (by kernel_rfl)
 have hxs:xs.length=9:=hxs
 have hmx:maxLen≤9223372036854775807:=by decide
 match cs,hl with
 | [c0,c1,c2,c3,c4,c5,c6,c7,c8,c9],_=>
  obtain⟨z0,a1,a2,a3⟩:=opens_field hf 0 _ rfl (by omega) (k:=1) (by kernel_rfl) opens_int
  obtain⟨z1,b1,b2,b3⟩:=opens_field hf 1 _ rfl (by omega) (k:=1) (by kernel_rfl) opens_str
  obtain⟨z2,d1,d2,d3,_⟩:=opens_field hf 2 _ rfl (by omega) (k:=1) (by kernel_rfl) opens_ops
  obtain⟨z3,e1,e2,e3,e4⟩:=opens_field hf 3 _ rfl (by omega) (k:=2) (by kernel_rfl) opens_row
  obtain⟨z4,f1,f2,f3,f4⟩:=opens_field hf 4 _ rfl (by omega) (k:=1) (by kernel_rfl) opens_ints
  obtain⟨z5,g1,g2,g3,_⟩:=opens_field hf 5 _ rfl (by omega) (k:=1) (by kernel_rfl) opens_strs
  obtain⟨z6,i1,i2,i3⟩:=opens_field hf 6 _ rfl (by omega) (k:=1) (by kernel_rfl) opens_int
  obtain⟨z7,j1,j2,j3⟩:=opens_field hf 7 _ rfl (by omega) (k:=1) (by kernel_rfl) opens_str
  obtain⟨z8,k1,k2,k3⟩:=opens_field hf 8 _ rfl (by omega) (k:=1) (by kernel_rfl) opens_str
  refine⟨⟨z0,z1,z2,z3.1,z3.2,z4,z5,z6,z7,z8⟩,RelL.append a1 (RelL.append b1 (RelL.append d1 (RelL.append e1 (RelL.append f1 (RelL.append g1 (RelL.append i1 (RelL.append j1 k1))))))),fun u hu=>?_,
   ⟨Nat.le_trans b3 hmx,fun o ho=>Nat.le_trans (d3 o ho).2 hmx,fun p hp=>Nat.le_trans (e3 p hp).2 hmx,Nat.le_trans e4 hmx,fun y hy=>Nat.le_trans (g3 y hy) hmx,Nat.le_trans j3 hmx,Nat.le_trans k3 hmx,Nat.le_trans f4 hmx⟩,⟨fun o ho=>(d3 o ho).1,fun p hp=>(e3 p hp).1,f3⟩⟩
  simp only[List.mem_cons,List.not_mem_nil,or_false] at hu
  rcases hu with rfl | rfl | rfl | rfl | rfl | rfl | rfl | rfl | rfl | rfl
  ·exact a2 _ (List.mem_singleton.2 rfl)
  ·exact b2 _ (List.mem_singleton.2 rfl)
  ·exact d2 _ (List.mem_singleton.2 rfl)
  ·exact e2 _ (List.mem_cons_self ..)
  ·exact e2 _ (List.mem_cons_of_mem _ (List.mem_cons_self ..))
  ·exact f2 _ (List.mem_singleton.2 rfl)
  ·exact g2 _ (List.mem_singleton.2 rfl)
  ·exact i2 _ (List.mem_singleton.2 rfl)
  ·exact j2 _ (List.mem_singleton.2 rfl)
  ·exact k2 _ (List.mem_singleton.2 rfl)
theorem opens_steps:Opens enc W 22 (fun l:List StepV=>[.sl .any 10 (rowsT l)]) (fun l=>(∀ v∈l,SzStep v∧IntStep v)∧l.length≤maxLen):=
 opens_slice Tryz.underlying22 (by kernel_rfl) (by decide) (fun _=>rfl) opens_step
theorem open_steps{b0:Nat}{v:Value}{d:DataW H}{ps:List MemPlace}(hval:Value.okWide Tryz.prog W .any b0 22 v)(hd:DataW.Trod enc Tryz.prog W 0 (fun _=>true) true 22 v d ps) :
 ∃ l:List StepV,Rel W (rdOf St.emp) (.sl .any 10 (rowsT l)) v∧(∀ v∈l,SzStep v)∧∀ v∈l,IntStep v:=by
 obtain⟨a,len,cap,rfl⟩:=Go.WideShapes.okWide_slice Tryz.underlying22 hval;obtain⟨fuel,hf⟩:=hd;obtain⟨l,h1,_,h3,_⟩:=opens_steps _ _ _ hf;refine⟨l,?_,fun v hv=>(h3 v hv).1,fun v hv=>(h3 v hv).2⟩
 have e:(Value.slice a len cap).cells.toList=[Value.slice a len cap]:=rfl
 rw[e] at h1;simp only[RelL] at h1;obtain⟨u,us,h4,h5,_⟩:=h1;obtain⟨rfl,_⟩:=List.cons.inj h4;exact h5
end
end Go.Proofs.YtogipknpafkfpaaGreatDoor.Aw

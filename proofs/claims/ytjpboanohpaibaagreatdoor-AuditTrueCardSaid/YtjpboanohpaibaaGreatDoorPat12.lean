/- A problem copied, walked: the copy is the same problem. All solutions of a problem, one after the other, handed to whoev -/
import Derived.Test.YtjpboanohpaibaaGreatDoorPat10
import Derived.Test.YtjpboanohpaibaaGreatDoorPat11
import Derived.Test.YtjpboanohpaibaaGreatDoorPat7
import Derived.Test.YtjpboanohpaibaaGreatDoorPat8
import Derived.Test.YtjpboanohpaibaaGreatDoorPat9
set_option linter.all false
set_option maxRecDepth 100000
namespace Go.Proofs.YtjpboanohpaibaaGreatDoor.Aw
open Go Go.RowKit
variable {G:Nat→Option (List AV)}
theorem flatK_get{k:Nat}:∀ {rows:List (List AV)} (_:∀ r∈rows,r.length=k) (i:Nat) (hi:i<rows.length) (f:Nat) (_:f<k) (junk:List AV),(rows.flatten++junk)[i*k+f]? = (rows[i])[f]?
 | [],_,i,hi,_,_,_=>by simp at hi
 | r::rows,hr,0,_,f,hf,junk=>by
   have h0:r.length=k:=hr r (by simp)
   rw[Nat.zero_mul,Nat.zero_add,List.flatten_cons,List.append_assoc,List.getElem?_append_left (by omega)];rfl
 | r::rows,hr,i+1,hi,f,hf,junk=>by
   have h0:r.length=k:=hr r (by simp)
   have h1:=flatK_get (rows:=rows) (fun x hx=>hr x (by simp[hx])) i (by simpa using hi) f hf junk
   rw[List.flatten_cons,List.append_assoc,List.getElem?_append_right (by rw[Nat.add_mul];omega),show(i+1)*k+f-r.length=i*k+f by rw[Nat.add_mul];omega,h1];rfl
theorem setRange_self{cells:List AV}{off:Nat}{x:AV}(h:cells[off]? = some x):setRange cells off [x]=cells:=by
 simp only[setRange];have hlt:off<cells.length:=by
  rcases Nat.lt_or_ge off cells.length with h' | h'
  ·exact h'
  ·rw[List.getElem?_eq_none h'] at h;cases h
 apply List.ext_getElem?
 intro j
 by_cases hj:off=j
 ·subst hj;rw[List.getElem?_set_self hlt,h]
 ·rw[List.getElem?_set_ne hj]
def CellR(S1 S:St)(x y:AV):Prop:=x=y∨∃ bR cap junk rows,x=.arr bR 0 rows.length cap∧y=.sl .any 1 rows∧S bR=none∧S1 bR=some (.obj 27 (rows.flatten++junk))∧(∀ r∈rows,r.length=1)∧rows.length≤cap∧cap≤maxLen
def CellsR(S1 S:St)(cs ys:List AV):Prop:=cs.length=ys.length∧∀ (k:Nat) (x y:AV),cs[k]? = some x→ys[k]? = some y→CellR S1 S x y
theorem CellR.mono{S1 S2 S:St}{x y:AV}(h:CellR S1 S x y)(hs:∀ b cells,S1 b=some (.obj 27 cells)→S2 b=some (.obj 27 cells)):CellR S2 S x y:=by
 rcases h with h | ⟨bR,cap,junk,rows,h1,h2,h3,h4,h5⟩
 ·exact .inl h
 ·exact .inr ⟨bR,cap,junk,rows,h1,h2,h3,hs _ _ h4,h5⟩
theorem CellsR.mono{S1 S2 S:St}{cs ys:List AV}(h:CellsR S1 S cs ys)(hs:∀ b cells,S1 b=some (.obj 27 cells)→S2 b=some (.obj 27 cells)):CellsR S2 S cs ys:=
 ⟨h.1,fun k x y hx hy=>(h.2 k x y hx hy).mono hs⟩
theorem CellsR.refl(S1 S:St)(cs:List AV):CellsR S1 S cs cs:=⟨rfl,fun k x y hx hy=>.inl (by rw[hx] at hy;exact Option.some.inj hy)⟩
theorem CellsR.set{S1 S:St}{cs ys:List AV}(h:CellsR S1 S cs ys){i:Nat}{x y:AV}(hy:ys[i]? = some y)(hx:CellR S1 S x y):CellsR S1 S (cs.set i x) ys:=by
 refine⟨by rw[List.length_set];exact h.1,fun k u v hu hv=>?_⟩
 by_cases hk:i=k
 ·subst hk;have hi:i<cs.length:=by
   rcases Nat.lt_or_ge i ys.length with h' | h'
   ·rw[h.1];exact h'
   ·rw[List.getElem?_eq_none h'] at hy;cases hy
  rw[List.getElem?_set_self hi] at hu;rw[hy] at hv;obtain rfl:=Option.some.inj hu;obtain rfl:=Option.some.inj hv;exact hx
 ·rw[List.getElem?_set_ne hk] at hu;exact h.2 k u v hu hv
theorem rows_flat1:∀ (xs:List (List AV)) (rest:List AV) (_:∀ x∈xs,x.length=1),rowsOf 1 (xs.flatten++rest) xs.length=xs
 | [],rest,_=>rfl
 | x::xs,rest,hx=>by
   obtain⟨y,rfl⟩:=List.length_eq_one_iff.1 (hx x (by simp))
   show rowsOf 1 _ (xs.length+1)=_
   simp only[List.flatten_cons,List.cons_append,List.nil_append,rowsOf];rw[show(y::(xs.flatten++rest)).take 1=[y] from rfl,show(y::(xs.flatten++rest)).drop 1=xs.flatten++rest from rfl,rows_flat1 xs rest fun x h=>hx x (by simp[h])]
theorem rows_flatK{k:Nat}:∀ (xs:List (List AV)) (rest:List AV) (_:∀ x∈xs,x.length=k),rowsOf k (xs.flatten++rest) xs.length=xs
 | [],rest,_=>rfl
 | x::xs,rest,hx=>by
   have h0:x.length=k:=hx x (by simp)
   show rowsOf k _ (xs.length+1)=_
   simp only[List.flatten_cons,List.append_assoc,rowsOf];rw[List.take_append_of_le_length (by omega),List.take_of_length_le (by omega),List.drop_append_of_le_length (by omega),List.drop_of_length_le (by omega),List.nil_append,rows_flatK xs rest fun x h=>hx x (by simp[h])]
theorem len1_flat:∀ {xs:List (List AV)} (_:∀ x∈xs,x.length=1),xs.flatten.length=xs.length
 | [],_=>rfl
 | x::xs,h=>by rw[List.flatten_cons,List.length_append,h x (by simp),len1_flat fun y hy=>h y (by simp[hy]),List.length_cons];omega
theorem CellR.leA{S1 S:St}{x y:AV}(h:CellR S1 S x y):AV.leA S1 S x y:=by
 rcases h with h | ⟨bR,cap,junk,rows,rfl,rfl,h3,h4,h5,h6,h7⟩
 ·exact .inl h
 ·refine .inr ⟨⟨h3,Nat.one_pos,h6,h7⟩,_,_,h4,?_,?_⟩
  ·rw[List.length_append,len1_flat h5];omega
  ·rw[List.drop_zero,rows_flat1 rows _ h5]
theorem CellsR.leC:∀ {S1 S:St} {cs ys:List AV},CellsR S1 S cs ys→AV.leC S1 S cs ys
 | _,_,[],[],_=>trivial
 | S1,S,x::cs,y::ys,h=>⟨(h.2 0 x y rfl rfl).leA,CellsR.leC ⟨by have:=h.1;simpa using this,fun k u v hu hv=>h.2 (k+1) u v (by simpa using hu) (by simpa using hv)⟩⟩
 | _,_,[],_::_,h=>by have:=h.1;simp at this
 | _,_,_::_,[],h=>by have:=h.1;simp at this
theorem store_set{S:St}{b off n:Nat}{x:AV}{e0:TypeId}{cells:List AV}{R:TypeId→List AV→Prop}(hS:S b=some (.obj e0 cells))(hlt:off<cells.length)(hn:n=1)(hK:R e0 (cells.set off x)) :
 ∃ e cs,S b=some (.obj e cs)∧when (Nat.ble (off+n) cs.length) (forceL (setRange cs off [x]) fun cs'=>R e cs'):=by
 subst hn;refine⟨e0,cells,hS,?_⟩;rw[when_iff,forceL_eq];exact⟨Nat.ble_eq_true_of_le hlt,hK⟩
theorem store_same{S:St}{b off n:Nat}{x:AV}{e0:TypeId}{cells:List AV}{R:TypeId→List AV→Prop}(hS:S b=some (.obj e0 cells))(hx:cells[off]? = some x)(hn:n=1)(hK:R e0 cells) :
 ∃ e cs,S b=some (.obj e cs)∧when (Nat.ble (off+n) cs.length) (forceL (setRange cs off [x]) fun cs'=>R e cs'):=by
 have hlt:off<cells.length:=by
  rcases Nat.lt_or_ge off cells.length with h | h
  ·exact h
  ·rw[List.getElem?_eq_none h] at hx;cases hx
 refine store_set hS hlt hn ?_;have:=setRange_self hx;simp only[setRange] at this;rw[this];exact hK
structure SzC (m:ModelV):Prop where
 v:m.vars.length*32≤140737488355328
 c:m.cons.length*144≤140737488355328
 g:m.goal.length*16≤140737488355328
 l:∀ c∈m.cons,c.terms.length*16≤140737488355328∧c.xs.length*8≤140737488355328∧c.table.length*8≤140737488355328∧c.rows.length*24≤140737488355328∧∀ r∈c.rows,r.length*8≤140737488355328
theorem rowsC_one(l:List ConV):∀ r∈rowsC l,r.length=10:=fun r hr=>by
 simp only[rowsC,List.mem_map] at hr;obtain⟨c,_,rfl⟩:=hr;rfl
theorem rowsLL_one(l:List (List Int)):∀ r∈rowsLL l,r.length=1:=fun r hr=>by
 simp only[rowsLL,List.mem_map] at hr;obtain⟨c,_,rfl⟩:=hr;rfl
def CopyQ(m:ModelV)(S:St)(o:Out)(S':St):Prop:=
 (m.cons=[]∧o=.ret (.ag [.sl .any 3 (rowsV m.vars),.nils,.bool m.hasGoal,.sl .any 2 (rowsTm m.goal)])∧S'=S)∨
 ∃ bC cap cs junk,o=.ret (.ag [.sl .any 3 (rowsV m.vars),.arr bC 0 m.cons.length cap,.bool m.hasGoal,.sl .any 2 (rowsTm m.goal)])∧St.le S S'∧S bC=none∧S' bC=some (.obj 51 cs)∧
  CellsR S' S cs ((rowsC m.cons).flatten++junk)∧m.cons.length≤cap∧cap≤maxLen∧cap*10≤cs.length
theorem Copy_w(m:ModelV)(hz:SzC m)(S:St):Triple P (C G) 19 [.ag (rowM m)] S (CopyQ m S):=by
 have hcv:=fun S=>CloneV_ok (G:=G) (rowsV m.vars) (by rw[rowsV_len];exact hz.v) S
 have hct:=fun S=>CloneT_ok (G:=G) (rowsTm m.goal) (by rw[rowsTm_len];exact hz.g) S
 have hcc:=fun S=>CloneC_w (G:=G) (rowsC m.cons) (by rw[rowsC_len];exact hz.c) S
 have hlc:=rowsC_len m.cons
 unfold rowM;refine triple_of_awp (hT G) hm Tryz.func19 rfl (by decide +kernel) rfl (by decide +kernel) (by show 1≤_;decide +kernel) rfl ?_
 refine awp_seq2 fun K hK hQ=>?_
 conv=>whnf
 intro b1 hb1;conv=>whnf
 intro b2 hb2;conv=>whnf
 refine hK _ _ ?_;clear hK hQ K;refine awp_seq2 fun K hK hQ=>?_
 refine⟨[2,5],(.free 0 (.free 1 (.free 2 (.free 3 (.free 4 (.free 5 (.free 6 (.free 7 (.free 9 (.one 8 (.one 10 (.free 11 (.one 12 (.free 13 (.one 14 .done .none)) .none)) .none) .none)))))))))),_,by decide +kernel,?_,fun _ _ h=>⟨_,.inl rfl,h⟩⟩
 conv=>whnf
 refine⟨_,_,St.up hb2 (St.upd_same _ _ _),?_⟩;conv=>whnf
 refine⟨.sl .any 3 (rowsV m.vars),(hcv _).mono ?_,?_⟩
 ·rintro o S' ⟨rfl,rfl⟩;exact⟨rfl,rfl⟩
 conv=>whnf
 refine⟨_,_,St.up hb2 (St.upd_same _ _ _),?_⟩;conv=>whnf
 refine⟨.sl .any 2 (rowsTm m.goal),(hct _).mono ?_,?_⟩
 ·rintro o S' ⟨rfl,rfl⟩;exact⟨rfl,rfl⟩
 conv=>whnf
 refine⟨_,_,St.up hb2 (St.upd_same _ _ _),?_⟩;conv=>whnf
 have q1:=St.up (p:=.obj 26 [.nils,.nils,.bool false,.nils]) hb2 (St.upd_same S b1 (.obj 26 [.sl .any 3 (rowsV m.vars),.sl .any 10 (rowsC m.cons),.bool m.hasGoal,.sl .any 2 (rowsTm m.goal)]))
 have q2:=St.upd_same (S.upd b1 (.obj 26 [.sl .any 3 (rowsV m.vars),.sl .any 10 (rowsC m.cons),.bool m.hasGoal,.sl .any 2 (rowsTm m.goal)])) b2 (.obj 26 [.nils,.nils,.bool false,.nils])
 have hle:=St.le_upd' (St.le_upd' (St.le_refl S) hb1 (.obj 26 [.sl .any 3 (rowsV m.vars),.sl .any 10 (rowsC m.cons),.bool m.hasGoal,.sl .any 2 (rowsTm m.goal)])) hb2 (.obj 26 [.nils,.nils,.bool false,.nils])
 have n12:b2≠b1:=St.ne_upd hb2
 have z2:S b2=none:=St.no hb2
 generalize (S.upd b1 (.obj 26 [.sl .any 3 (rowsV m.vars),.sl .any 10 (rowsC m.cons),.bool m.hasGoal,.sl .any 2 (rowsTm m.goal)])).upd b2 (.obj 26 [.nils,.nils,.bool false,.nils])=T at *;refine(hcc _).mono ?_;rintro o T' (⟨rfl,hz0,rfl⟩ | ⟨bC,capC,junk,hbC,rfl,rfl,hcap1,hcap2,hcap3⟩)
 ·-- no constraint
  conv=>whnf
  refine⟨_,_,q1,?_⟩;conv=>whnf
  refine⟨_,_,St.upd_same _ _ _,?_⟩;conv=>whnf
  refine⟨_,_,St.upd_same _ _ _,?_⟩;conv=>whnf
  rw[St.upd_upd,St.upd_upd];have hzm:m.cons=[]:=by have:=congrArg List.length hz0;rw[rowsC_len] at this;exact List.eq_nil_of_length_eq_zero this
  have n12':b1≠b2:=n12.symm
  have u1:=St.upd_same T' b1 (.obj 26 [.sl .any 3 (rowsV m.vars),.nils,.bool m.hasGoal,.sl .any 2 (rowsTm m.goal)])
  have u2:=(St.upd_ne T' b1 (.obj 26 [.sl .any 3 (rowsV m.vars),.nils,.bool m.hasGoal,.sl .any 2 (rowsTm m.goal)]) b2 n12).trans q2
  have hleU:=St.le_upd hle hb1 (.obj 26 [.sl .any 3 (rowsV m.vars),.nils,.bool m.hasGoal,.sl .any 2 (rowsTm m.goal)])
  refine hK _ _ ?_;clear hK hQ K;generalize T'.upd b1 (.obj 26 [.sl .any 3 (rowsV m.vars),.nils,.bool m.hasGoal,.sl .any 2 (rowsTm m.goal)])=U at *;clear q1 q2 hle;refine awp_seq2 fun K hK hQ=>?_
  conv=>whnf
  refine⟨_,_,u1,?_⟩;conv=>whnf
  refine⟨⟨Nat,fun i=>[(1,.ref b1 0),(2,.ref b2 0),(20,.int .i64 0),(21,.int .i64 0)],fun i S1=>S1=U,fun i=>0⟩,
   ⟨0,⟨rfl,rfl,rfl,rfl,trivial⟩,_,St.leW_refl _,rfl⟩,?_⟩
  rintro(i:Nat) S1 rfl;conv=>whnf
  refine hK _ _ ?_;clear hK hQ K;conv=>whnf
  refine⟨_,_,u1,?_⟩;conv=>whnf
  refine⟨_,_,u2,?_⟩;conv=>whnf
  refine⟨_,_,St.upd_same _ _ _,?_⟩;conv=>whnf
  exact⟨_,_,.inl ⟨hzm,rfl,rfl⟩,St.le_upd hleU z2 _,AV.leS_refl _ _ _⟩
 ·conv=>whnf
  refine⟨_,_,St.up hbC q1,?_⟩;conv=>whnf
  refine⟨_,_,St.upd_same _ _ _,?_⟩;conv=>whnf
  refine⟨_,_,St.upd_same _ _ _,?_⟩;conv=>whnf
  rw[St.upd_upd,St.upd_upd];refine hK _ _ ?_;clear hK hQ K;have zC:S bC=none:=St.le_none hle hbC;have n1C:b1≠bC:=fun e=>by rw[e,hbC] at q1;cases q1
  have u1:=St.upd_same (T.upd bC (.obj 51 ((rowsC m.cons).flatten++junk))) b1 (.obj 26 [.sl .any 3 (rowsV m.vars),.arr bC 0 (rowsC m.cons).length capC,.bool m.hasGoal,.sl .any 2 (rowsTm m.goal)])
  have uC:((T.upd bC (.obj 51 ((rowsC m.cons).flatten++junk))).upd b1 (.obj 26 [.sl .any 3 (rowsV m.vars),.arr bC 0 (rowsC m.cons).length capC,.bool m.hasGoal,.sl .any 2 (rowsTm m.goal)])) bC=some (.obj 51 ((rowsC m.cons).flatten++junk)):=St.ov n1C.symm (St.upd_same _ _ _)
  have u2:((T.upd bC (.obj 51 ((rowsC m.cons).flatten++junk))).upd b1 (.obj 26 [.sl .any 3 (rowsV m.vars),.arr bC 0 (rowsC m.cons).length capC,.bool m.hasGoal,.sl .any 2 (rowsTm m.goal)])) b2=some (.obj 26 [.nils,.nils,.bool false,.nils]):=St.ov n12 (St.up hbC q2)
  have hleU:=St.le_upd (St.le_upd' hle hbC (.obj 51 ((rowsC m.cons).flatten++junk))) hb1 (.obj 26 [.sl .any 3 (rowsV m.vars),.arr bC 0 (rowsC m.cons).length capC,.bool m.hasGoal,.sl .any 2 (rowsTm m.goal)])
  generalize (T.upd bC (.obj 51 ((rowsC m.cons).flatten++junk))).upd b1 (.obj 26 [.sl .any 3 (rowsV m.vars),.arr bC 0 (rowsC m.cons).length capC,.bool m.hasGoal,.sl .any 2 (rowsTm m.goal)])=U at *;clear q1 q2 hle hbC;have hfg:=fun i hi f hf=>flatK_get (rowsC_one m.cons) i hi f hf junk
  have hfl:((rowsC m.cons).flatten++junk).length=(rowsC m.cons).length*10+junk.length:=by
   rw[List.length_append]
   congr 1
   have:∀ l:List (List AV),(∀ r∈l,r.length=10)→l.flatten.length=l.length*10:=by
    intro l hl
    induction l with
    | nil=>rfl
    | cons r l ih=>rw[List.flatten_cons,List.length_append,hl r (by simp),ih fun x hx=>hl x (by simp[hx]),List.length_cons];omega
   exact this _ (rowsC_one m.cons)
  have hro:rowsOf 10 ((rowsC m.cons).flatten++junk) (rowsC m.cons).length=rowsC m.cons:=rows_flatK _ _ (rowsC_one m.cons)
  generalize horg:(rowsC m.cons).flatten++junk=orig at *;refine awp_seq2 fun K hK hQ=>?_
  conv=>whnf
  refine⟨_,_,u1,?_⟩;conv=>whnf
  refine⟨⟨Nat,fun i=>[(1,.ref b1 0),(2,.ref b2 0),(20,.int .i64 ((rowsC m.cons).length:Int)),(21,.int .i64 (i:Int))],
   fun i S1=>St.le S S1∧i≤(rowsC m.cons).length∧S1 b1=some (.obj 26 [.sl .any 3 (rowsV m.vars),.arr bC 0 (rowsC m.cons).length capC,.bool m.hasGoal,.sl .any 2 (rowsTm m.goal)])∧S1 b2=some (.obj 26 [.nils,.nils,.bool false,.nils])∧
    ∃ cs,S1 bC=some (.obj 51 cs)∧CellsR S1 S cs orig∧cs.drop (i*10)=orig.drop (i*10),fun i=>(rowsC m.cons).length-i⟩,
   ⟨0,⟨rfl,rfl,rfl,rfl,trivial⟩,_,St.leW_refl _,hleU,Nat.zero_le _,u1,u2,_,uC,CellsR.refl _ _ _,rfl⟩,?_⟩
  clear hleU u1 u2 uC U;rintro(i:Nat) S1 ⟨hl1,hi,u1,u2,cs,uC,hcr,hdr⟩;refine awp_seq2 fun K2 hK2 hQ2=>?_
  conv=>whnf
  refine hK2 _ _ ?_;clear hK2 hQ2 K2;refine awp_seq2 fun K2 hK2 hQ2=>?_
  conv=>whnf
  refine split_of (fun hlt=>?_) (fun hlt=>?_)
  ·have hlt:i<(rowsC m.cons).length:=by have:=of_decide_eq_true hlt;omega
   have hlt':i<m.cons.length:=by omega
   have w1:IntKind.i64.wrap ((i:Int)+1)=((i+1:Nat):Int):=wrap_nat (by have:=hz.c;omega)
   have hcl:cs.length=orig.length:=hcr.1
   obtain⟨zl1,zl2,zl3,zl4,zl5⟩:=hz.l _ (List.getElem_mem hlt');have hrow:(rowsC m.cons)[i]=rowC m.cons[i]:=by simp[rowsC]
   have hget:∀ f,f<10→cs[i*10+f]? = (rowC m.cons[i])[f]?:=fun f hf=>by
    have h1:=congrArg (fun l:List AV=>l[f]?) hdr
    simp only[List.getElem?_drop] at h1;rw[h1,hfg i hlt f hf,hrow]
   have horig:orig[i*10+9]? = some (.sl .any 1 (rowsLL m.cons[i].rows)):=by rw[hfg i hlt 9 (by omega),hrow];rfl
   generalize m.cons[i]=c at *;have g2:cs[0+(i:Int).toNat*10+2]? = some (.sl .any 2 (rowsTm c.terms)):=by rw[show 0+(i:Int).toNat*10+2=i*10+2 by omega,hget 2 (by omega)];rfl
   have g7:cs[0+(i:Int).toNat*10+7]? = some (.sl .any 1 (rowsI c.xs)):=by rw[show 0+(i:Int).toNat*10+7=i*10+7 by omega,hget 7 (by omega)];rfl
   have g8:cs[0+(i:Int).toNat*10+8]? = some (.sl .any 1 (rowsI c.table)):=by rw[show 0+(i:Int).toNat*10+8=i*10+8 by omega,hget 8 (by omega)];rfl
   have g9:cs[0+(i:Int).toNat*10+9]? = some (.sl .any 1 (rowsLL c.rows)):=by rw[show 0+(i:Int).toNat*10+9=i*10+9 by omega,hget 9 (by omega)];rfl
   have hdr1:cs.drop ((i+1)*10)=orig.drop ((i+1)*10):=by
    have:=congrArg (List.drop 10) hdr
    rw[List.drop_drop,List.drop_drop] at this;rw[show(i+1)*10=i*10+10 by omega];exact this
   clear hget hrow;conv=>whnf
   refine hK2 _ _ ?_;clear hK2 hQ2 K2;refine awp_seq2 fun K2 hK2 hQ2=>?_
   refine awp_blk1 ?_;refine awp_seq2 fun K3 hK3 hQ3=>?_
   conv=>whnf
   refine hK3 _ _ ?_;clear hK3 hQ3 K3;refine awp_seq2 fun K3 hK3 hQ3=>?_
   conv=>whnf
   refine⟨_,_,u1,?_⟩;conv=>whnf
   refine⟨⟨by omega,by omega⟩,?_⟩
   conv=>whnf
   refine hK3 _ _ ?_;clear hK3 hQ3 K3;refine awp_seq2 fun K3 hK3 hQ3=>?_
   refine⟨[8,13,18],(.free 0 (.free 1 (.free 2 (.free 3 (.free 4 (.free 5 (.free 6 (.free 7 (.free 8 (.free 9 (.free 10 (.free 11 (.free 12 (.free 13 (.free 14 (.free 15 (.free 16 (.free 17 (.free 18 (.free 19 (.free 20 (.free 21 (.free 22 (.one 23 (.free 24 (.free 25 (.one 26 (.free 27 (.free 28 (.one 29 (.free 30 (.free 31 (.one 32 (.free 33 (.free 34 (.one 35 .done .none))) .none))) .none))) .none))) .none)))))))))))))))))))))))),_,by decide +kernel,?_,fun _ _ h=>⟨_,.inl rfl,h⟩⟩
   conv=>whnf
   refine⟨_,_,uC,aPart_cell rfl g2 ?_⟩;conv=>whnf
   refine⟨.sl .any 2 (rowsTm c.terms),(CloneT_ok (G:=G) (rowsTm c.terms) (by rw[rowsTm_len];exact zl1) _).mono ?_,?_⟩
   ·rintro o S' ⟨rfl,rfl⟩;exact⟨rfl,rfl⟩
   conv=>whnf
   refine⟨_,_,uC,aPart_cell rfl g7 ?_⟩;conv=>whnf
   refine⟨.sl .any 1 (rowsI c.xs),(CloneI_ok (G:=G) (rowsI c.xs) (by rw[rowsI_len];exact zl2) _).mono ?_,?_⟩
   ·rintro o S' ⟨rfl,rfl⟩;exact⟨rfl,rfl⟩
   conv=>whnf
   refine⟨_,_,uC,aPart_cell rfl g8 ?_⟩;conv=>whnf
   refine⟨.sl .any 1 (rowsI c.table),(CloneI_ok (G:=G) (rowsI c.table) (by rw[rowsI_len];exact zl3) _).mono ?_,?_⟩
   ·rintro o S' ⟨rfl,rfl⟩;exact⟨rfl,rfl⟩
   conv=>whnf
   refine⟨_,_,uC,aPart_cell rfl g9 ?_⟩;conv=>whnf
   refine(CloneL_w (G:=G) (rowsLL c.rows) (by rw[rowsLL_len];exact zl4) _).mono ?_
   rintro o S2 (⟨rfl,hz0,rfl⟩ | ⟨bR,capR,junkR,hbR,rfl,rfl,hr1,hr2,hr3⟩)
   ·have g9':cs[0+(i:Int).toNat*10+9]? = some (.sl .any 1 []):=by rw[g9,hz0]
    conv=>whnf
    refine store_same uC g2 rfl ?_;rw[St.upd_self uC];conv=>whnf
    refine store_same uC g7 rfl ?_;rw[St.upd_self uC];conv=>whnf
    refine store_same uC g8 rfl ?_;rw[St.upd_self uC];conv=>whnf
    refine store_same uC g9' rfl ?_;rw[St.upd_self uC];conv=>whnf
    refine hK3 _ _ ?_;clear hK3 hQ3 K3;conv=>whnf
    refine⟨_,_,uC,aPart_cell rfl g9' ?_⟩;conv=>whnf
    intro _;conv=>whnf
    refine⟨⟨Nat,fun k=>[(1,.ref b1 0),(2,.ref b2 0),(20,.int .i64 ((rowsC m.cons).length:Int)),(21,.int .i64 (i:Int)),(64,.int .i64 0),(65,.int .i64 0)],fun k S3=>S3=S2,fun k=>0⟩,
     ⟨0,⟨rfl,rfl,rfl,rfl,rfl,rfl,trivial⟩,_,St.leW_refl _,rfl⟩,?_⟩
    rintro(k:Nat) S3 rfl;conv=>whnf
    refine hK2 _ _ ?_;clear hK2 hQ2 K2;conv=>whnf
    exact⟨i+1,⟨rfl,rfl,rfl,congrArg _ w1,trivial⟩,⟨_,St.leW_refl _,hl1,hlt,u1,u2,cs,uC,hcr,hdr1⟩,by show(rowsC m.cons).length-(i+1)<(rowsC m.cons).length-i;omega⟩
   ·have nRC:bR≠bC:=fun e=>by rw[e,uC] at hbR;cases hbR
    have nR1:bR≠b1:=fun e=>by rw[e,u1] at hbR;cases hbR
    have nR2:bR≠b2:=fun e=>by rw[e,u2] at hbR;cases hbR
    have n1C':b1≠bC:=n1C
    have n2C:b2≠bC:=fun e=>by rw[e,uC] at u2;cases u2
    have zR:S bR=none:=St.le_none hl1 hbR
    have vR:=St.upd_same S1 bR (.obj 27 ((rowsLL c.rows).flatten++junkR))
    have vC:=St.up (p:=.obj 27 ((rowsLL c.rows).flatten++junkR)) hbR uC
    have v1:=St.up (p:=.obj 27 ((rowsLL c.rows).flatten++junkR)) hbR u1
    have v2:=St.up (p:=.obj 27 ((rowsLL c.rows).flatten++junkR)) hbR u2
    have hl2:=St.le_upd' hl1 hbR (.obj 27 ((rowsLL c.rows).flatten++junkR))
    have hcr2:=hcr.mono (S2:=S1.upd bR (.obj 27 ((rowsLL c.rows).flatten++junkR))) fun b cells hb=>St.up hbR hb
    generalize S1.upd bR (.obj 27 ((rowsLL c.rows).flatten++junkR))=S2 at *;clear hcr u1 u2 hbR uC hl1;conv=>whnf
    refine store_same vC g2 rfl ?_;rw[St.upd_self vC];conv=>whnf
    refine store_same vC g7 rfl ?_;rw[St.upd_self vC];conv=>whnf
    refine store_same vC g8 rfl ?_;rw[St.upd_self vC];conv=>whnf
    have hoff:0+(i:Int).toNat*10+9<cs.length:=by rw[hcl,hfl];omega
    refine store_set (off:=0+(i:Int).toNat*10+9) (x:=.arr bR 0 (rowsLL c.rows).length capR) vC hoff rfl ?_;have x9:(cs.set (0+(i:Int).toNat*10+9) (.arr bR 0 (rowsLL c.rows).length capR))[0+(i:Int).toNat*10+9]? = some (.arr bR 0 (rowsLL c.rows).length capR):=List.getElem?_set_self hoff;have hcr3:CellsR (S2.upd bC (.obj 51 (cs.set (0+(i:Int).toNat*10+9) (.arr bR 0 (rowsLL c.rows).length capR)))) S (cs.set (0+(i:Int).toNat*10+9) (.arr bR 0 (rowsLL c.rows).length capR)) orig:=by
     refine(hcr2.mono fun b cells hb=>?_).set (y:=.sl .any 1 (rowsLL c.rows)) (by rw[show 0+(i:Int).toNat*10+9=i*10+9 by omega];exact horig) (.inr ⟨bR,capR,junkR,rowsLL c.rows,rfl,rfl,zR,(St.upd_ne _ _ _ _ nRC).trans vR,rowsLL_one _,hr1,hr2⟩)
     have:b≠bC:=fun e=>by rw[e,vC] at hb;cases hb
     rw[St.upd_ne _ _ _ _ this];exact hb
    have hdr2:(cs.set (0+(i:Int).toNat*10+9) (.arr bR 0 (rowsLL c.rows).length capR)).drop ((i+1)*10)=orig.drop ((i+1)*10):=by
     rw[List.drop_set_of_lt (by omega)];exact hdr1
    have y1:=(St.upd_ne S2 bC (.obj 51 (cs.set (0+(i:Int).toNat*10+9) (.arr bR 0 (rowsLL c.rows).length capR))) b1 n1C').trans v1
    have y2:=(St.upd_ne S2 bC (.obj 51 (cs.set (0+(i:Int).toNat*10+9) (.arr bR 0 (rowsLL c.rows).length capR))) b2 n2C).trans v2
    have yR:=(St.upd_ne S2 bC (.obj 51 (cs.set (0+(i:Int).toNat*10+9) (.arr bR 0 (rowsLL c.rows).length capR))) bR nRC).trans vR
    have yC:=St.upd_same S2 bC (.obj 51 (cs.set (0+(i:Int).toNat*10+9) (.arr bR 0 (rowsLL c.rows).length capR)))
    have hl3:=St.le_upd hl2 zC (.obj 51 (cs.set (0+(i:Int).toNat*10+9) (.arr bR 0 (rowsLL c.rows).length capR)))
    generalize cs.set (0+(i:Int).toNat*10+9) (.arr bR 0 (rowsLL c.rows).length capR)=cs3 at *;generalize S2.upd bC (.obj 51 cs3)=S3 at *;clear v1 v2 vC vR hl2 hcr2;conv=>whnf
    refine hK3 _ _ ?_;clear hK3 hQ3 K3;conv=>whnf
    refine⟨_,_,yC,aPart_cell rfl x9 ?_⟩;conv=>whnf
    refine⟨⟨Nat,fun k=>[(1,.ref b1 0),(2,.ref b2 0),(4,.ref bC (0+(i:Int).toNat*10)),(20,.int .i64 ((rowsC m.cons).length:Int)),(21,.int .i64 (i:Int)),(64,.int .i64 ((rowsLL c.rows).length:Int)),(65,.int .i64 (k:Int))],fun k S4=>S4=S3∧k≤(rowsLL c.rows).length,fun k=>(rowsLL c.rows).length-k⟩,
     ⟨0,⟨rfl,rfl,rfl,rfl,rfl,rfl,rfl,trivial⟩,_,St.leW_refl _,rfl,Nat.zero_le _⟩,?_⟩
    rintro(k:Nat) S4 ⟨rfl,hk⟩;conv=>whnf
    refine split_of (fun hltk=>?_) (fun hltk=>?_)
    ·have hltk:k<(rowsLL c.rows).length:=by have:=of_decide_eq_true hltk;omega
     have hltk':k<c.rows.length:=by rw[rowsLL_len] at hltk;exact hltk
     have wk:IntKind.i64.wrap ((k:Int)+1)=((k+1:Nat):Int):=wrap_nat (by rw[rowsLL_len] at hltk;omega)
     have gk:((rowsLL c.rows).flatten++junkR)[0+(k:Int).toNat*1]? = some (.sl .any 1 (rowsI c.rows[k])):=by
      have h1:=flatK_get (rowsLL_one c.rows) k hltk 0 (by omega) junkR
      rw[show 0+(k:Int).toNat*1=k*1+0 by omega,h1]
      simp[rowsLL]
     have zk:=zl5 _ (List.getElem_mem hltk')
     generalize c.rows[k]=r at *;conv=>whnf
     refine⟨[12],(.free 0 (.free 1 (.free 2 (.free 3 (.free 4 (.free 5 (.free 6 (.free 7 (.free 8 (.free 9 (.free 10 (.free 11 (.free 12 (.free 13 (.one 14 .done .none))))))))))))))),_,by decide +kernel,?_,fun _ _ h=>⟨_,.inl rfl,h⟩⟩
     conv=>whnf
     refine⟨_,_,yC,aPart_cell rfl x9 ?_⟩;conv=>whnf
     refine⟨_,_,yC,aPart_cell rfl x9 ?_⟩;conv=>whnf
     refine⟨⟨by omega,by omega⟩,?_⟩
     conv=>whnf
     refine⟨_,_,yR,aPart_cell rfl gk ?_⟩;conv=>whnf
     refine⟨.sl .any 1 (rowsI r),(CloneI_ok (G:=G) (rowsI r) (by rw[rowsI_len];exact zk) _).mono ?_,?_⟩
     ·rintro o S' ⟨rfl,rfl⟩;exact⟨rfl,rfl⟩
     conv=>whnf
     refine⟨⟨by omega,by omega⟩,?_⟩
     conv=>whnf
     refine store_same yR gk rfl ?_;rw[St.upd_self yR];conv=>whnf
     exact⟨k+1,⟨rfl,rfl,rfl,rfl,rfl,rfl,congrArg _ wk,trivial⟩,⟨_,St.leW_refl _,rfl,hltk⟩,by show(rowsLL c.rows).length-(k+1)<(rowsLL c.rows).length-k;omega⟩
    ·conv=>whnf
     refine hK2 _ _ ?_;clear hK2 hQ2 K2;conv=>whnf
     exact⟨i+1,⟨rfl,rfl,rfl,congrArg _ w1,trivial⟩,⟨_,St.leW_refl _,hl3,hlt,y1,y2,cs3,yC,hcr3,hdr2⟩,by show(rowsC m.cons).length-(i+1)<(rowsC m.cons).length-i;omega⟩
  ·have hlt:i=(rowsC m.cons).length:=by have:=of_decide_eq_false hlt;omega
   subst hlt;conv=>whnf
   refine hQ2 _ _ _ (by simp) ?_
   clear hK2 hQ2 K2;conv=>whnf
   refine hK _ _ ?_;clear hK hQ K;conv=>whnf
   refine⟨_,_,u1,?_⟩;conv=>whnf
   refine⟨_,_,u2,?_⟩;conv=>whnf
   refine⟨_,_,St.upd_same _ _ _,?_⟩;conv=>whnf
   have nC2:bC≠b2:=fun e=>by rw[e,u2] at uC;cases uC
   refine⟨_,_,.inr ⟨bC,capC,cs,junk,congrArg (fun k=>Out.ret (AV.ag [.sl .any 3 (rowsV m.vars),.arr bC 0 k capC,.bool m.hasGoal,.sl .any 2 (rowsTm m.goal)])) hlc,St.le_upd hl1 z2 _,zC,(St.upd_ne _ _ _ _ nC2).trans uC,?_,by omega,hcap2,?_⟩,St.le_refl _,AV.leS_refl _ _ _⟩
   ·rw[horg];exact hcr.mono fun b cells hb=>by
     have:b≠b2:=fun e=>by rw[e,u2] at hb;cases hb
     rw[St.upd_ne _ _ _ _ this];exact hb
   ·have h3:=hcap3 (rowsC_one _)
    rw[← hcr.1] at h3;exact h3
theorem Copy_ok(m:ModelV)(hz:SzC m)(S:St):Triple P (C G) 19 [.ag (rowM m)] S fun o S'=>o=.ret (.ag (rowM m))∧S'=S:=
 (Copy_w m hz S).lessen fun o S' h=>by
   rcases h with ⟨h0,rfl,rfl⟩ | ⟨bC,cap,cs,junk,rfl,hle,hb,hc,hr,h1,h2,h3⟩
   ·exact⟨.ret (.ag (rowM m)),_,⟨rfl,rfl⟩,St.le_refl _,⟨⟨rfl,rfl⟩,by rw[h0];rfl,rfl,⟨rfl,rfl⟩,rfl⟩⟩
   ·refine⟨.ret (.ag (rowM m)),S,⟨rfl,rfl⟩,hle,⟨⟨rfl,rfl⟩,⟨⟨hb,by decide,h1,h2⟩,_,_,hc,?_,_,hr.leC,?_⟩,rfl,⟨rfl,rfl⟩,rfl⟩⟩
    ·have:m.cons.length*10≤cap*10:=Nat.mul_le_mul_right _ h1
     omega
    ·rw[List.drop_zero,← rowsC_len m.cons,rows_flatK _ _ (rowsC_one m.cons)]
theorem acounts_ok{m:ModelV}(hz:SzM m){conF:ConV→Int}(hcon:ConOk G m conF)(S:St):Triple P (C G) 29 [.ag (rowM m)] S fun o S'=>o=.ret (.bool (productV m conF 100000).2)∧S'=S:=by
 have hp:=fun S=>Product_ok (G:=G) hz hcon 100000 (by decide) (by decide) S
 unfold rowM at hp ⊢;refine triple_of_awp (hT G) hm Tryz.func29 rfl (by decide +kernel) rfl (by decide +kernel) (by show 1≤_;decide +kernel) rfl ?_
 conv=>whnf
 intro b1 hb1;conv=>whnf
 refine⟨_,_,St.upd_same _ _ _,?_⟩;conv=>whnf
 refine(hp _).mono ?_;rintro o T ⟨rfl,rfl⟩;conv=>whnf
 exact⟨_,_,⟨rfl,rfl⟩,St.le_upd' (St.le_refl _) hb1 _,AV.leS_refl _ _ _⟩
theorem Solutions_ok{m:ModelV}(hc:SzC m)(S:St):Triple P (C G) 10 [.ag (rowM m)] S fun o S'=>∃ b,S b=none∧o=.ret (.fn (.func 28) [] [.ref b 0])∧S'=S.upd b (.obj 26 (rowM m)):=by
 have hp:=fun S=>Copy_ok (G:=G) m hc S
 unfold rowM at hp ⊢;refine triple_of_awp (hT G) hm Tryz.func10 rfl (by decide +kernel) rfl (by decide +kernel) (by show 1≤_;decide +kernel) rfl ?_
 conv=>whnf
 intro b1 hb1;conv=>whnf
 refine⟨_,_,St.upd_same _ _ _,?_⟩;conv=>whnf
 refine(hp _).mono ?_;rintro o T ⟨rfl,rfl⟩;conv=>whnf
 refine⟨_,_,St.upd_same _ _ _,?_⟩;conv=>whnf
 rw[St.upd_upd];exact⟨_,_,⟨b1,hb1,rfl,rfl⟩,St.le_refl _,AV.leS_refl _ _ _⟩
structure Asks (y:YSpec) (Bs:List Nat) (J:List (List Int)→St→Prop) (F:List (List Int)→St→Prop) (ok:List Int→Prop):Prop where
 dep:∀ d S S',(∀ b∈Bs,S' b=S b)→J d S→J d S'
 at_:∀ d S,J d S→∀ b∈Bs,S b≠none
 step:∀ d v S K,J d S→ok v→(∀ S',J (d++[v]) S'→(∀ b o,b ∉ Bs→S b=some o→S' b=some o)→K true S')→(∀ S',F (d++[v]) S'→(∀ b o,b ∉ Bs→S b=some o→S' b=some o)→K false S')→y.spec [.sl .any 1 (rowsI v)] S K
def Fz(Bs:List Nat)(S S':St):Prop:=∀ b o,b ∉ Bs→S b=some o→S' b=some o
theorem Fz.trans{Bs:List Nat}{a b c:St}(h:Fz Bs a b)(k:Fz Bs b c):Fz Bs a c:=fun x o hx h1=>k x o hx (h x o hx h1)
theorem Fz.refl(Bs:List Nat)(a:St):Fz Bs a a:=fun _ _ _ h=>h
theorem Fz.le{Bs:List Nat}{a b:St}(h:St.le a b):Fz Bs a b:=fun x o _ h1=>h _ _ h1
theorem Asks.le{y:YSpec}{Bs:List Nat}{J:List (List Int)→St→Prop}{F:List (List Int)→St→Prop}{ok:List Int→Prop}(h:Asks y Bs J F ok){d:List (List Int)}{S S':St}(hj:J d S)(hs:St.le S S'):J d S':=
 h.dep d S S' (fun b hb=>by
  cases hh:S b with
  | none=>exact absurd hh (h.at_ d S hj b hb)
  | some o=>exact hs _ _ hh) hj
def solsF(m:ModelV)(sol:List Int→Bool)(p:List Int):List (List Int):=(allFrom (m.vars.drop p.length) p).filter sol
def solK(m:ModelV)(conF:ConV→Int)(holdsF:List Int→ConV→Bool)(v:List Int):Bool:=solutionV m conF (holdsF v) v
theorem solsF_step(m:ModelV)(sol:List Int→Bool)(p:List Int)(h:p.length<m.vars.length):solsF m sol p=(rangeI m.vars[p.length].2.1 m.vars[p.length].2.2).flatMap fun x=>solsF m sol (p++[x]):=by
 unfold solsF;rw[List.drop_eq_getElem_cons h]
 show List.filter sol ((rangeI _ _).flatMap fun x=>allFrom (m.vars.drop (p.length+1)) (p++[x]))=_
 rw[List.filter_flatMap];simp only[List.length_append,List.length_cons,List.length_nil]
theorem rangeI_take(lo up:Int)(j:Nat)(h:lo+j≤up):(rangeI lo up).take (j+1)=(rangeI lo up).take j++[lo+(j:Int)]:=by
 rw[List.take_add_one]
 congr 1
 unfold rangeI;rw[List.getElem?_map,List.getElem?_range (by omega)]
 rfl
theorem rangeI_all(lo up:Int)(j:Nat)(h:up<lo+j):(rangeI lo up).take j=rangeI lo up:=List.take_of_length_le (by rw[rangeI_len];omega)
theorem goes_ok{m:ModelV}(hz:SzM m){conF:ConV→Int}(hcon:ConOk G m conF)(h0:checkE m conF=0){holdsF:List Int→ConV→Bool}(hho:∀ v,v.length=m.vars.length→HoldsOk G m v (holdsF v))
 {y:YSpec} {Bs:List Nat} {J:List (List Int)→St→Prop} {F:List (List Int)→St→Prop} (ha:Asks y Bs J F fun v=>solK m conF holdsF v=true) :
 ∀ (n:Nat) (p:List Int),p.length+n=m.vars.length→∀ (d:List (List Int)) (S:St),J d S→
  Triple P ((C G).withY y) 30 [.ag (rowM m),.sl .any 1 (rowsI p),.fn (.yield y.l) [] []] S fun o S'=>Fz Bs S S'∧((o=.ret (.bool true)∧J (d++solsF m (solK m conF holdsF) p) S')∨(o=.ret (.bool false)∧∃ e,e <+: d++solsF m (solK m conF holdsF) p∧F e S')):=by
 obtain⟨hvo,hv0,hv32⟩:=right_vars h0;have hlv:=rowsV_len m.vars;intro n
 induction n with
 | zero=>
   intro p hp d S hJ;have hpl:p.length=m.vars.length:=by omega
   have hso:=fun S=>(Solution_ok (G:=G) hz hcon p (by omega) (fun _ _=>hho p hpl) S)
   have hcl:=fun S=>CloneI_ok (G:=G) (rowsI p) (by rw[rowsI_len];omega) S
   have hli:=rowsI_len p
   have hsl:solsF m (solK m conF holdsF) p=if solK m conF holdsF p then [p] else []:=by
    unfold solsF;rw[List.drop_of_length_le (by omega)]
    unfold allFrom
    cases h:solK m conF holdsF p<;>simp[h]
   rw[hsl];have hres:∀ b,solK m conF holdsF p=b→solutionV m conF (holdsF p) p=b:=fun b h=>h
   unfold rowM at hso ⊢;have hq:solutionV m conF (holdsF p) p=solK m conF holdsF p:=rfl;rw[hq] at hso;clear hq hres;have hstep:=ha.step d p;generalize solK m conF holdsF p=sb at *;refine triple_of_awp (C:=(C G).withY _) (hT G) hm Tryz.func30 rfl (by decide +kernel) rfl (by decide +kernel) (by show 3≤_;decide +kernel) rfl ?_
   refine awp_seq2 fun K hK hQ=>?_
   conv=>whnf
   intro b3 hb3;conv=>whnf
   refine hK _ _ ?_;clear hK hQ K;have q3:=St.upd_same S b3 (.obj 26 [.sl .any 3 (rowsV m.vars),.sl .any 10 (rowsC m.cons),.bool m.hasGoal,.sl .any 2 (rowsTm m.goal)]);have hle:=St.le_upd' (St.le_refl S) hb3 (.obj 26 [.sl .any 3 (rowsV m.vars),.sl .any 10 (rowsC m.cons),.bool m.hasGoal,.sl .any 2 (rowsTm m.goal)]);have hJ':=ha.le hJ hle;generalize S.upd b3 (.obj 26 [.sl .any 3 (rowsV m.vars),.sl .any 10 (rowsC m.cons),.bool m.hasGoal,.sl .any 2 (rowsTm m.goal)])=T at *;refine awp_seq2 fun K hK hQ=>?_
   conv=>whnf
   intro _;rw[hli];conv=>whnf
   refine⟨_,_,q3,?_⟩;conv=>whnf
   intro _;rw[hlv];conv=>whnf
   rw[show((p.length:Int) == (m.vars.length:Int))=true by rw[hpl];simp]
   conv=>whnf
   refine⟨_,_,q3,?_⟩;conv=>whnf
   refine(Triple.liftY (hso _)).mono ?_;rintro o T' ⟨rfl,rfl⟩
   cases hsb:sb with
   | false=>
     conv=>whnf
     refine hQ _ _ _ (by simp) ?_
     conv=>whnf
     exact⟨_,_,⟨Fz.le hle,.inl ⟨rfl,by rw[hsb];simpa using hJ'⟩⟩,St.le_refl _,AV.leS_refl _ _ _⟩
   | true=>
     conv=>whnf
     refine(Triple.liftY (hcl _)).mono ?_;rintro o T'' ⟨rfl,rfl⟩;conv=>whnf
     refine⟨rfl,?_⟩;refine hstep _ _ hJ' hsb (fun S' hJ2 hfr=>?_) (fun S' hF2 hfr=>?_)
     ·conv=>whnf
      refine hQ _ _ _ (by simp) ?_
      conv=>whnf
      exact⟨_,_,⟨Fz.trans (Fz.le hle) hfr,.inl ⟨rfl,by rw[hsb];exact hJ2⟩⟩,St.le_refl _,AV.leS_refl _ _ _⟩
     ·conv=>whnf
      refine hQ _ _ _ (by simp) ?_
      conv=>whnf
      exact⟨_,_,⟨Fz.trans (Fz.le hle) hfr,.inr ⟨rfl,_,by rw[hsb];exact List.prefix_refl _,hF2⟩⟩,St.le_refl _,AV.leS_refl _ _ _⟩
 | succ n ih=>
   intro p hp d S hJ;have hpl:p.length<m.vars.length:=by omega
   have hli:=rowsI_len p
   have ga:(rowsV m.vars)[(p.length:Int).toNat]? = some (rowV m.vars[p.length]):=by simp[rowsV,hpl]
   obtain⟨v1,v2,v3,v4⟩:=hvo _ (List.getElem_mem hpl);have hst:=solsF_step m (solK m conF holdsF) p hpl;have hin:=fun x=>ih (p++[x]) (by simp;omega)
   have hcl:=fun S=>CloneI_own (G:=G) (rowsI p) (by rw[rowsI_len];omega) S
   generalize m.vars[p.length]=v at *;obtain⟨nm,lo,up⟩:=v;dsimp only at v1 v2 v3 v4 hst;unfold rowV at ga;dsimp only at ga;rw[hst];clear hst ih;generalize hg:(fun x=>solsF m (solK m conF holdsF) (p++[x]))=g at *
   have hg':∀ x,solsF m (solK m conF holdsF) (p++[x])=g x:=fun x=>congrFun hg x
   simp only[hg'] at hin;unfold rowM at hin ⊢;refine triple_of_awp (C:=(C G).withY _) (hT G) hm Tryz.func30 rfl (by decide +kernel) rfl (by decide +kernel) (by show 3≤_;decide +kernel) rfl ?_
   refine awp_seq2 fun K hK hQ=>?_
   conv=>whnf
   intro b3 hb3;conv=>whnf
   refine hK _ _ ?_;clear hK hQ K;have n3:b3 ∉ Bs:=fun h=>ha.at_ d S hJ b3 h hb3
   have q3:=St.upd_same S b3 (.obj 26 [.sl .any 3 (rowsV m.vars),.sl .any 10 (rowsC m.cons),.bool m.hasGoal,.sl .any 2 (rowsTm m.goal)])
   have hle:=St.le_upd' (St.le_refl S) hb3 (.obj 26 [.sl .any 3 (rowsV m.vars),.sl .any 10 (rowsC m.cons),.bool m.hasGoal,.sl .any 2 (rowsTm m.goal)])
   have hJ':=ha.le hJ hle
   generalize S.upd b3 (.obj 26 [.sl .any 3 (rowsV m.vars),.sl .any 10 (rowsC m.cons),.bool m.hasGoal,.sl .any 2 (rowsTm m.goal)])=T at *;refine awp_seq2 fun K hK hQ=>?_
   conv=>whnf
   intro _;rw[hli];conv=>whnf
   refine⟨_,_,q3,?_⟩;conv=>whnf
   intro _;rw[hlv];conv=>whnf
   rw[show((p.length:Int) == (m.vars.length:Int))=false by simp;omega]
   conv=>whnf
   refine hK _ _ ?_;clear hK hQ K;refine awp_seq2 fun K hK hQ=>?_
   conv=>whnf
   refine⟨_,_,q3,?_⟩;conv=>whnf
   intro _;rw[hli];conv=>whnf
   refine⟨_,⟨by omega,ga⟩,?_⟩
   conv=>whnf
   intro b7 hb7;conv=>whnf
   refine⟨_,_,St.upd_same _ _ _,?_⟩;conv=>whnf
   rw[St.upd_upd];refine hK _ _ ?_;clear hK hQ K;have n7:b7 ∉ Bs:=fun h=>ha.at_ d T hJ' b7 h hb7
   have q7:=St.upd_same T b7 (.obj 49 [.str nm,.int .i64 lo,.int .i64 up])
   have q3':=St.up (p:=.obj 49 [.str nm,.int .i64 lo,.int .i64 up]) hb7 q3
   have hle7:=St.le_upd' hle hb7 (.obj 49 [.str nm,.int .i64 lo,.int .i64 up])
   have hJ7:=ha.le hJ' (St.le_upd' (St.le_refl T) hb7 (.obj 49 [.str nm,.int .i64 lo,.int .i64 up]))
   generalize T.upd b7 (.obj 49 [.str nm,.int .i64 lo,.int .i64 up])=U at *;clear q3 hle hJ';refine awp_seq2 fun K hK hQ=>?_
   conv=>whnf
   refine⟨_,_,q7,?_⟩;conv=>whnf
   refine⟨⟨Nat,fun j=>[(1,.sl .any 1 (rowsI p)),(2,.fn (.yield y.l) [] []),(3,.ref b3 0),(7,.ref b7 0),(8,.int .i64 (lo+(j:Int)))],
    fun j S1=>Fz Bs S S1∧S1 b3=some (.obj 26 [.sl .any 3 (rowsV m.vars),.sl .any 10 (rowsC m.cons),.bool m.hasGoal,.sl .any 2 (rowsTm m.goal)])∧S1 b7=some (.obj 49 [.str nm,.int .i64 lo,.int .i64 up])∧J (d++((rangeI lo up).take j).flatMap g) S1∧lo+(j:Int)≤up+1,fun j=>(up+1-(lo+j)).toNat⟩,
    ⟨0,⟨⟨rfl,rfl⟩,rfl,rfl,rfl,congrArg (AV.int .i64) (Int.add_zero lo).symm,trivial⟩,_,St.leW_refl _,Fz.le hle7,q3',q7,by simpa using hJ7,by omega⟩,?_⟩
   clear hle7 q3' q7 hJ7 U hb7 T hb3;rintro(j:Nat) S1 ⟨hfr,q3,q7,hJ1,hj⟩;conv=>whnf
   refine⟨_,_,q7,?_⟩;conv=>whnf
   refine split_of (fun hlt=>?_) (fun hlt=>?_)
   ·have hlt:lo+(j:Int)≤up:=of_decide_eq_true hlt
    have w1:IntKind.i64.wrap (lo+(j:Int)+1)=lo+((j+1:Nat):Int):=by rw[wrap_i64 (by omega) (by omega)];omega
    have htk:=rangeI_take lo up j hlt
    conv=>whnf
    have hrw:rowsI (p++[lo+(j:Int)])=rowsI p++[[.int .i64 (lo+(j:Int))]]:=by simp[rowsI]
    have hin1:=hin (lo+(j:Int)) (d++((rangeI lo up).take j).flatMap g)
    rw[hrw] at hin1;have hnext:(d++((rangeI lo up).take j).flatMap g)++g (lo+(j:Int))=d++((rangeI lo up).take (j+1)).flatMap g:=by
     rw[htk,List.flatMap_append,List.flatMap_cons,List.flatMap_nil,List.append_nil,List.append_assoc]
    rw[hnext] at hin1;have hpre:d++((rangeI lo up).take (j+1)).flatMap g <+: d++(rangeI lo up).flatMap g:=by
     refine(List.prefix_append_right_inj d).2 ⟨((rangeI lo up).drop (j+1)).flatMap g,?_⟩;rw[← List.flatMap_append,List.take_append_drop]
    clear hnext htk;refine⟨[],(.free 1 (.free 3 (.free 6 (.one 0 (.one 2 (.one 4 (.one 5 (.one 7 (.free 8 .done) .none) .none) .none) (.one 4 (.one 2 (.one 5 (.one 7 (.free 8 .done) .none) .none) .none) .none)) (.one 2 (.free 0 (.one 4 (.one 5 (.one 7 (.free 8 .done) .none) .none) .none)) (.one 4 (.one 0 (.one 2 (.one 5 (.one 7 (.free 8 .done) .none) .none) .none) (.one 2 (.free 0 (.one 5 (.one 7 (.free 8 .done) .none) .none)) .none)) .none)))))),_,by decide +kernel,?_,fun _ _ h=>⟨_,.inl rfl,h⟩⟩
    refine⟨?_,?_⟩
    ·conv=>whnf
     refine⟨_,_,q3,?_⟩;conv=>whnf
     refine⟨?_,?_⟩
     ·conv=>whnf
      refine(Triple.liftY (hcl _)).mono ?_;rintro o T (⟨rfl,hz0,rfl⟩ | ⟨b1,hb1,rfl,rfl⟩)
      ·conv=>whnf
       intro bb hbb
       -- St.le_upd' (St.le_refl _) hbb (.tip 3 1 1) what is there still
       conv=>whnf
       refine⟨by show 1*8≤_;omega,fun b2 hb2=>?_⟩
       have hleU:=St.le_upd' (St.le_upd' (St.le_refl _) hbb (.tip 3 1 1)) hb2 (.tip 3 1 1)
       conv=>whnf
       -- behind the append: hleU:St.le S1 U
       refine Triple.use (hin1 _ (ha.le hJ1 hleU)) (by exact⟨rfl,⟨rfl,(show[[AV.int .i64 (lo+(j:Int))]]=rowsI p++[[AV.int .i64 (lo+(j:Int))]] by rw[hz0];rfl)⟩,rfl,trivial⟩) ?_
       rintro o S' ⟨hfr2,(⟨rfl,hJ2⟩ | ⟨rfl,e2,he2,hF2⟩)⟩
       ·conv=>whnf
        exact⟨j+1,⟨⟨rfl,rfl⟩,rfl,rfl,rfl,congrArg _ w1,trivial⟩,⟨_,St.leW_refl _,Fz.trans hfr (Fz.trans (Fz.le hleU) hfr2),hfr2 _ _ n3 (hleU _ _ q3),hfr2 _ _ n7 (hleU _ _ q7),hJ2,by omega⟩,by dsimp only;omega⟩
       ·conv=>whnf
        refine hQ _ _ _ (by simp) ?_
        conv=>whnf
        exact⟨_,_,⟨Fz.trans hfr (Fz.trans (Fz.le hleU) hfr2),.inr ⟨rfl,e2,he2.trans hpre,hF2⟩⟩,St.le_refl _,AV.leS_refl _ _ _⟩
      ·conv=>whnf
       intro bb hbb
       -- St.up hbb (St.upd_same _ _ _) the tip,hb1 it is new,St.le_upd' (St.le_upd' (St.le_refl S1) hb1 (.tip 3 1 (rowsI p).length)) hbb (.tip 3 1 1) what is there still
       conv=>whnf
       refine⟨⟨St.up hbb (St.upd_same _ _ _),by rw[hli];show(p.length+1)*8≤_;omega⟩,fun b2 hb2=>?_⟩
       have hleU:=St.le_upd (St.le_del (St.le_upd' (St.le_upd' (St.le_refl S1) hb1 (.tip 3 1 (rowsI p).length)) hbb (.tip 3 1 1)) (hb1)) (St.le_none (St.le_del (St.le_upd' (St.le_upd' (St.le_refl S1) hb1 (.tip 3 1 (rowsI p).length)) hbb (.tip 3 1 1)) (hb1)) hb2) (.tip 3 1 ((rowsI p).length+1))
       conv=>whnf
       -- behind the append: hleU:St.le S1 U
       refine Triple.use (hin1 _ (ha.le hJ1 hleU)) (by exact⟨rfl,⟨rfl,rfl⟩,rfl,trivial⟩) ?_
       rintro o S' ⟨hfr2,(⟨rfl,hJ2⟩ | ⟨rfl,e2,he2,hF2⟩)⟩
       ·conv=>whnf
        exact⟨j+1,⟨⟨rfl,rfl⟩,rfl,rfl,rfl,congrArg _ w1,trivial⟩,⟨_,St.leW_refl _,Fz.trans hfr (Fz.trans (Fz.le hleU) hfr2),hfr2 _ _ n3 (hleU _ _ q3),hfr2 _ _ n7 (hleU _ _ q7),hJ2,by omega⟩,by dsimp only;omega⟩
       ·conv=>whnf
        refine hQ _ _ _ (by simp) ?_
        conv=>whnf
        exact⟨_,_,⟨Fz.trans hfr (Fz.trans (Fz.le hleU) hfr2),.inr ⟨rfl,e2,he2.trans hpre,hF2⟩⟩,St.le_refl _,AV.leS_refl _ _ _⟩
     ·conv=>whnf
      intro bb hbb;conv=>whnf
      refine(Triple.liftY (hcl _)).mono ?_;rintro o T (⟨rfl,hz0,rfl⟩ | ⟨b1,hb1,rfl,rfl⟩)
      ·skip
       -- St.le_upd' (St.le_refl _) hbb (.tip 3 1 1) what is there still
       conv=>whnf
       refine⟨by show 1*8≤_;omega,fun b2 hb2=>?_⟩
       have hleU:=St.le_upd' (St.le_upd' (St.le_refl _) hbb (.tip 3 1 1)) hb2 (.tip 3 1 1)
       conv=>whnf
       -- behind the append: hleU:St.le S1 U
       refine Triple.use (hin1 _ (ha.le hJ1 hleU)) (by exact⟨rfl,⟨rfl,(show[[AV.int .i64 (lo+(j:Int))]]=rowsI p++[[AV.int .i64 (lo+(j:Int))]] by rw[hz0];rfl)⟩,rfl,trivial⟩) ?_
       rintro o S' ⟨hfr2,(⟨rfl,hJ2⟩ | ⟨rfl,e2,he2,hF2⟩)⟩
       ·conv=>whnf
        exact⟨j+1,⟨⟨rfl,rfl⟩,rfl,rfl,rfl,congrArg _ w1,trivial⟩,⟨_,St.leW_refl _,Fz.trans hfr (Fz.trans (Fz.le hleU) hfr2),hfr2 _ _ n3 (hleU _ _ q3),hfr2 _ _ n7 (hleU _ _ q7),hJ2,by omega⟩,by dsimp only;omega⟩
       ·conv=>whnf
        refine hQ _ _ _ (by simp) ?_
        conv=>whnf
        exact⟨_,_,⟨Fz.trans hfr (Fz.trans (Fz.le hleU) hfr2),.inr ⟨rfl,e2,he2.trans hpre,hF2⟩⟩,St.le_refl _,AV.leS_refl _ _ _⟩
      ·skip
       -- St.upd_same _ _ _ the tip,St.no hb1 it is new,St.le_upd' (St.le_upd' (St.le_refl S1) hbb (.tip 3 1 1)) hb1 (.tip 3 1 (rowsI p).length) what is there still
       conv=>whnf
       refine⟨⟨St.upd_same _ _ _,by rw[hli];show(p.length+1)*8≤_;omega⟩,fun b2 hb2=>?_⟩
       have hleU:=St.le_upd (St.le_del (St.le_upd' (St.le_upd' (St.le_refl S1) hbb (.tip 3 1 1)) hb1 (.tip 3 1 (rowsI p).length)) (St.no hb1)) (St.le_none (St.le_del (St.le_upd' (St.le_upd' (St.le_refl S1) hbb (.tip 3 1 1)) hb1 (.tip 3 1 (rowsI p).length)) (St.no hb1)) hb2) (.tip 3 1 ((rowsI p).length+1))
       conv=>whnf
       -- behind the append: hleU:St.le S1 U
       refine Triple.use (hin1 _ (ha.le hJ1 hleU)) (by exact⟨rfl,⟨rfl,rfl⟩,rfl,trivial⟩) ?_
       rintro o S' ⟨hfr2,(⟨rfl,hJ2⟩ | ⟨rfl,e2,he2,hF2⟩)⟩
       ·conv=>whnf
        exact⟨j+1,⟨⟨rfl,rfl⟩,rfl,rfl,rfl,congrArg _ w1,trivial⟩,⟨_,St.leW_refl _,Fz.trans hfr (Fz.trans (Fz.le hleU) hfr2),hfr2 _ _ n3 (hleU _ _ q3),hfr2 _ _ n7 (hleU _ _ q7),hJ2,by omega⟩,by dsimp only;omega⟩
       ·conv=>whnf
        refine hQ _ _ _ (by simp) ?_
        conv=>whnf
        exact⟨_,_,⟨Fz.trans hfr (Fz.trans (Fz.le hleU) hfr2),.inr ⟨rfl,e2,he2.trans hpre,hF2⟩⟩,St.le_refl _,AV.leS_refl _ _ _⟩
    refine⟨?_,?_⟩
    ·conv=>whnf
     refine(Triple.liftY (hcl _)).mono ?_;rintro o T (⟨rfl,hz0,rfl⟩ | ⟨b1,hb1,rfl,rfl⟩)
     ·conv=>whnf
      refine⟨_,_,q3,?_⟩;conv=>whnf
      intro bb hbb
      -- St.le_upd' (St.le_refl _) hbb (.tip 3 1 1) what is there still
      conv=>whnf
      refine⟨by show 1*8≤_;omega,fun b2 hb2=>?_⟩
      have hleU:=St.le_upd' (St.le_upd' (St.le_refl _) hbb (.tip 3 1 1)) hb2 (.tip 3 1 1)
      conv=>whnf
      -- behind the append: hleU:St.le S1 U
      refine Triple.use (hin1 _ (ha.le hJ1 hleU)) (by exact⟨rfl,⟨rfl,(show[[AV.int .i64 (lo+(j:Int))]]=rowsI p++[[AV.int .i64 (lo+(j:Int))]] by rw[hz0];rfl)⟩,rfl,trivial⟩) ?_
      rintro o S' ⟨hfr2,(⟨rfl,hJ2⟩ | ⟨rfl,e2,he2,hF2⟩)⟩
      ·conv=>whnf
       exact⟨j+1,⟨⟨rfl,rfl⟩,rfl,rfl,rfl,congrArg _ w1,trivial⟩,⟨_,St.leW_refl _,Fz.trans hfr (Fz.trans (Fz.le hleU) hfr2),hfr2 _ _ n3 (hleU _ _ q3),hfr2 _ _ n7 (hleU _ _ q7),hJ2,by omega⟩,by dsimp only;omega⟩
      ·conv=>whnf
       refine hQ _ _ _ (by simp) ?_
       conv=>whnf
       exact⟨_,_,⟨Fz.trans hfr (Fz.trans (Fz.le hleU) hfr2),.inr ⟨rfl,e2,he2.trans hpre,hF2⟩⟩,St.le_refl _,AV.leS_refl _ _ _⟩
     ·conv=>whnf
      refine⟨_,_,St.up hb1 q3,?_⟩;conv=>whnf
      intro bb hbb
      -- St.up hbb (St.upd_same _ _ _) the tip,hb1 it is new,St.le_upd' (St.le_upd' (St.le_refl S1) hb1 (.tip 3 1 (rowsI p).length)) hbb (.tip 3 1 1) what is there still
      conv=>whnf
      refine⟨⟨St.up hbb (St.upd_same _ _ _),by rw[hli];show(p.length+1)*8≤_;omega⟩,fun b2 hb2=>?_⟩
      have hleU:=St.le_upd (St.le_del (St.le_upd' (St.le_upd' (St.le_refl S1) hb1 (.tip 3 1 (rowsI p).length)) hbb (.tip 3 1 1)) (hb1)) (St.le_none (St.le_del (St.le_upd' (St.le_upd' (St.le_refl S1) hb1 (.tip 3 1 (rowsI p).length)) hbb (.tip 3 1 1)) (hb1)) hb2) (.tip 3 1 ((rowsI p).length+1))
      conv=>whnf
      -- behind the append: hleU:St.le S1 U
      refine Triple.use (hin1 _ (ha.le hJ1 hleU)) (by exact⟨rfl,⟨rfl,rfl⟩,rfl,trivial⟩) ?_
      rintro o S' ⟨hfr2,(⟨rfl,hJ2⟩ | ⟨rfl,e2,he2,hF2⟩)⟩
      ·conv=>whnf
       exact⟨j+1,⟨⟨rfl,rfl⟩,rfl,rfl,rfl,congrArg _ w1,trivial⟩,⟨_,St.leW_refl _,Fz.trans hfr (Fz.trans (Fz.le hleU) hfr2),hfr2 _ _ n3 (hleU _ _ q3),hfr2 _ _ n7 (hleU _ _ q7),hJ2,by omega⟩,by dsimp only;omega⟩
      ·conv=>whnf
       refine hQ _ _ _ (by simp) ?_
       conv=>whnf
       exact⟨_,_,⟨Fz.trans hfr (Fz.trans (Fz.le hleU) hfr2),.inr ⟨rfl,e2,he2.trans hpre,hF2⟩⟩,St.le_refl _,AV.leS_refl _ _ _⟩
    ·conv=>whnf
     intro bb hbb;conv=>whnf
     refine⟨?_,?_⟩
     ·conv=>whnf
      refine⟨_,_,St.up hbb q3,?_⟩;conv=>whnf
      refine(Triple.liftY (hcl _)).mono ?_;rintro o T (⟨rfl,hz0,rfl⟩ | ⟨b1,hb1,rfl,rfl⟩)
      ·skip
       -- St.le_upd' (St.le_refl _) hbb (.tip 3 1 1) what is there still
       conv=>whnf
       refine⟨by show 1*8≤_;omega,fun b2 hb2=>?_⟩
       have hleU:=St.le_upd' (St.le_upd' (St.le_refl _) hbb (.tip 3 1 1)) hb2 (.tip 3 1 1)
       conv=>whnf
       -- behind the append: hleU:St.le S1 U
       refine Triple.use (hin1 _ (ha.le hJ1 hleU)) (by exact⟨rfl,⟨rfl,(show[[AV.int .i64 (lo+(j:Int))]]=rowsI p++[[AV.int .i64 (lo+(j:Int))]] by rw[hz0];rfl)⟩,rfl,trivial⟩) ?_
       rintro o S' ⟨hfr2,(⟨rfl,hJ2⟩ | ⟨rfl,e2,he2,hF2⟩)⟩
       ·conv=>whnf
        exact⟨j+1,⟨⟨rfl,rfl⟩,rfl,rfl,rfl,congrArg _ w1,trivial⟩,⟨_,St.leW_refl _,Fz.trans hfr (Fz.trans (Fz.le hleU) hfr2),hfr2 _ _ n3 (hleU _ _ q3),hfr2 _ _ n7 (hleU _ _ q7),hJ2,by omega⟩,by dsimp only;omega⟩
       ·conv=>whnf
        refine hQ _ _ _ (by simp) ?_
        conv=>whnf
        exact⟨_,_,⟨Fz.trans hfr (Fz.trans (Fz.le hleU) hfr2),.inr ⟨rfl,e2,he2.trans hpre,hF2⟩⟩,St.le_refl _,AV.leS_refl _ _ _⟩
      ·skip
       -- St.upd_same _ _ _ the tip,St.no hb1 it is new,St.le_upd' (St.le_upd' (St.le_refl S1) hbb (.tip 3 1 1)) hb1 (.tip 3 1 (rowsI p).length) what is there still
       conv=>whnf
       refine⟨⟨St.upd_same _ _ _,by rw[hli];show(p.length+1)*8≤_;omega⟩,fun b2 hb2=>?_⟩
       have hleU:=St.le_upd (St.le_del (St.le_upd' (St.le_upd' (St.le_refl S1) hbb (.tip 3 1 1)) hb1 (.tip 3 1 (rowsI p).length)) (St.no hb1)) (St.le_none (St.le_del (St.le_upd' (St.le_upd' (St.le_refl S1) hbb (.tip 3 1 1)) hb1 (.tip 3 1 (rowsI p).length)) (St.no hb1)) hb2) (.tip 3 1 ((rowsI p).length+1))
       conv=>whnf
       -- behind the append: hleU:St.le S1 U
       refine Triple.use (hin1 _ (ha.le hJ1 hleU)) (by exact⟨rfl,⟨rfl,rfl⟩,rfl,trivial⟩) ?_
       rintro o S' ⟨hfr2,(⟨rfl,hJ2⟩ | ⟨rfl,e2,he2,hF2⟩)⟩
       ·conv=>whnf
        exact⟨j+1,⟨⟨rfl,rfl⟩,rfl,rfl,rfl,congrArg _ w1,trivial⟩,⟨_,St.leW_refl _,Fz.trans hfr (Fz.trans (Fz.le hleU) hfr2),hfr2 _ _ n3 (hleU _ _ q3),hfr2 _ _ n7 (hleU _ _ q7),hJ2,by omega⟩,by dsimp only;omega⟩
       ·conv=>whnf
        refine hQ _ _ _ (by simp) ?_
        conv=>whnf
        exact⟨_,_,⟨Fz.trans hfr (Fz.trans (Fz.le hleU) hfr2),.inr ⟨rfl,e2,he2.trans hpre,hF2⟩⟩,St.le_refl _,AV.leS_refl _ _ _⟩
     ·conv=>whnf
      refine(Triple.liftY (hcl _)).mono ?_;rintro o T (⟨rfl,hz0,rfl⟩ | ⟨b1,hb1,rfl,rfl⟩)
      ·conv=>whnf
       refine⟨_,_,St.up hbb q3,?_⟩
       -- St.le_upd' (St.le_refl _) hbb (.tip 3 1 1) what is there still
       conv=>whnf
       refine⟨by show 1*8≤_;omega,fun b2 hb2=>?_⟩
       have hleU:=St.le_upd' (St.le_upd' (St.le_refl _) hbb (.tip 3 1 1)) hb2 (.tip 3 1 1)
       conv=>whnf
       -- behind the append: hleU:St.le S1 U
       refine Triple.use (hin1 _ (ha.le hJ1 hleU)) (by exact⟨rfl,⟨rfl,(show[[AV.int .i64 (lo+(j:Int))]]=rowsI p++[[AV.int .i64 (lo+(j:Int))]] by rw[hz0];rfl)⟩,rfl,trivial⟩) ?_
       rintro o S' ⟨hfr2,(⟨rfl,hJ2⟩ | ⟨rfl,e2,he2,hF2⟩)⟩
       ·conv=>whnf
        exact⟨j+1,⟨⟨rfl,rfl⟩,rfl,rfl,rfl,congrArg _ w1,trivial⟩,⟨_,St.leW_refl _,Fz.trans hfr (Fz.trans (Fz.le hleU) hfr2),hfr2 _ _ n3 (hleU _ _ q3),hfr2 _ _ n7 (hleU _ _ q7),hJ2,by omega⟩,by dsimp only;omega⟩
       ·conv=>whnf
        refine hQ _ _ _ (by simp) ?_
        conv=>whnf
        exact⟨_,_,⟨Fz.trans hfr (Fz.trans (Fz.le hleU) hfr2),.inr ⟨rfl,e2,he2.trans hpre,hF2⟩⟩,St.le_refl _,AV.leS_refl _ _ _⟩
      ·conv=>whnf
       refine⟨_,_,St.up hb1 (St.up hbb q3),?_⟩
       -- St.upd_same _ _ _ the tip,St.no hb1 it is new,St.le_upd' (St.le_upd' (St.le_refl S1) hbb (.tip 3 1 1)) hb1 (.tip 3 1 (rowsI p).length) what is there still
       conv=>whnf
       refine⟨⟨St.upd_same _ _ _,by rw[hli];show(p.length+1)*8≤_;omega⟩,fun b2 hb2=>?_⟩
       have hleU:=St.le_upd (St.le_del (St.le_upd' (St.le_upd' (St.le_refl S1) hbb (.tip 3 1 1)) hb1 (.tip 3 1 (rowsI p).length)) (St.no hb1)) (St.le_none (St.le_del (St.le_upd' (St.le_upd' (St.le_refl S1) hbb (.tip 3 1 1)) hb1 (.tip 3 1 (rowsI p).length)) (St.no hb1)) hb2) (.tip 3 1 ((rowsI p).length+1))
       conv=>whnf
       -- behind the append: hleU:St.le S1 U
       refine Triple.use (hin1 _ (ha.le hJ1 hleU)) (by exact⟨rfl,⟨rfl,rfl⟩,rfl,trivial⟩) ?_
       rintro o S' ⟨hfr2,(⟨rfl,hJ2⟩ | ⟨rfl,e2,he2,hF2⟩)⟩
       ·conv=>whnf
        exact⟨j+1,⟨⟨rfl,rfl⟩,rfl,rfl,rfl,congrArg _ w1,trivial⟩,⟨_,St.leW_refl _,Fz.trans hfr (Fz.trans (Fz.le hleU) hfr2),hfr2 _ _ n3 (hleU _ _ q3),hfr2 _ _ n7 (hleU _ _ q7),hJ2,by omega⟩,by dsimp only;omega⟩
       ·conv=>whnf
        refine hQ _ _ _ (by simp) ?_
        conv=>whnf
        exact⟨_,_,⟨Fz.trans hfr (Fz.trans (Fz.le hleU) hfr2),.inr ⟨rfl,e2,he2.trans hpre,hF2⟩⟩,St.le_refl _,AV.leS_refl _ _ _⟩
   ·have hlt:¬ lo+(j:Int)≤up:=of_decide_eq_false hlt
    rw[rangeI_all lo up j (by omega)] at hJ1
    conv=>whnf
    refine hK _ _ ?_;clear hK hQ K;conv=>whnf
    exact⟨_,_,⟨hfr,.inl ⟨rfl,hJ1⟩⟩,St.le_refl _,AV.leS_refl _ _ _⟩
structure Know (G:Nat→Option (List AV)) (m:ModelV) (conF:ConV→Int) (holdsF:List Int→ConV→Bool):Prop where
 z:SzM m
 c:SzC m
 con:ConOk G m conF
 holds:checkE m conF=0→∀ v,v.length=m.vars.length→HoldsOk G m v (holdsF v)
def solsA(m:ModelV)(conF:ConV→Int)(holdsF:List Int→ConV→Bool):List (List Int):=if (productV m conF 100000).2 then solsF m (solK m conF holdsF) [] else []
theorem count_zero{m:ModelV}{conF:ConV→Int}(h:(productV m conF 100000).2=true):checkE m conF=0:=by
 unfold productV at h
 by_cases h0:checkE m conF=0
 ·exact h0
 ·rw[if_neg h0] at h;cases h
theorem SolutionsE_ok{m:ModelV}{conF:ConV→Int}{holdsF:List Int→ConV→Bool}(hk:Know G m conF holdsF){y:YSpec}{Bs:List Nat}{J:List (List Int)→St→Prop}{F:List (List Int)→St→Prop}(ha:Asks y Bs J F fun v=>solK m conF holdsF v=true)
 {S:St} {b:Nat} (hb:S b=some (.obj 26 (rowM m))) (hJ:J [] S) :
 TripleE P ((C G).withY y) 28 [.fn (.yield y.l) [] [],.ref b 0] S fun o S'=>(∃ x,o=.ret x)∧Fz Bs S S'∧(J (solsA m conF holdsF) S'∨∃ e,e <+: solsA m conF holdsF∧F e S'):=by
 have hco:=fun S=>acounts_ok (G:=G) hk.z hk.con S
 have hgo:=fun h=>goes_ok (G:=G) hk.z hk.con (count_zero (conF:=conF) h) (hk.holds (count_zero h)) ha m.vars.length [] (by simp) [] S hJ
 unfold solsA;generalize (productV m conF 100000).2=cn at *;unfold rowM at *;refine tripleE_of_awp (C:=(C G).withY _) (hT G) hm Tryz.func28 rfl (by decide +kernel) rfl (by decide +kernel) (by show 2≤_;decide +kernel) rfl ?_
 conv=>whnf
 refine⟨_,_,hb,?_⟩;conv=>whnf
 refine(Triple.liftY (hco _)).mono ?_;rintro o T ⟨rfl,rfl⟩
 cases cn with
 | false=>
   conv=>whnf
   exact⟨_,_,⟨⟨_,rfl⟩,Fz.refl _ _,.inl hJ⟩,St.le_refl _,AV.leS_refl _ _ _⟩
 | true=>
   conv=>whnf
   refine⟨_,_,hb,?_⟩;conv=>whnf
   refine Triple.use (hgo rfl) (by exact⟨rfl,rfl,rfl,trivial⟩) ?_
   rintro o S' ⟨hfr,(⟨rfl,hJ2⟩ | ⟨rfl,e2,he2,hF2⟩)⟩
   ·conv=>whnf
    exact⟨_,_,⟨⟨_,rfl⟩,hfr,.inl hJ2⟩,St.le_refl _,AV.leS_refl _ _ _⟩
   ·conv=>whnf
    exact⟨_,_,⟨⟨_,rfl⟩,hfr,.inr ⟨e2,he2,hF2⟩⟩,St.le_refl _,AV.leS_refl _ _ _⟩
theorem wrap_step(n:Int):IntKind.i64.wrap (IntKind.i64.wrap n+1)=IntKind.i64.wrap (n+1):=by
 rw[IntKind.wrap_i64,IntKind.wrap_i64,IntKind.wrap_i64];omega
theorem Count_ok{m:ModelV}{conF:ConV→Int}{holdsF:List Int→ConV→Bool}(hk:Know G m conF holdsF)(S:St) :
 Triple P (C G) 11 [.ag (rowM m)] S fun o S'=>o=.ret (.tu [.int .i64 (IntKind.i64.wrap (solsA m conF holdsF).length),.bool (productV m conF 100000).2])∧S'=S:=by
 have hso:=fun S=>Solutions_ok (G:=G) hk.c S
 have hco:=fun S=>acounts_ok (G:=G) hk.z hk.con S
 unfold rowM at *;refine triple_of_awp (hT G) hm Tryz.func11 rfl (by decide +kernel) rfl (by decide +kernel) (by show 1≤_;decide +kernel) rfl ?_
 refine awp_seq2 fun K hK hQ=>?_
 conv=>whnf
 intro b1 hb1;conv=>whnf
 refine hK _ _ ?_;clear hK hQ K;refine awp_seq2 fun K hK hQ=>?_
 conv=>whnf
 intro b4 hb4;conv=>whnf
 refine⟨_,_,St.upd_same _ _ _,?_⟩;conv=>whnf
 rw[St.upd_upd];refine hK _ _ ?_;clear hK hQ K;have q1:=St.up (p:=.obj 3 [.int .i64 0]) hb4 (St.upd_same S b1 (.obj 26 [.sl .any 3 (rowsV m.vars),.sl .any 10 (rowsC m.cons),.bool m.hasGoal,.sl .any 2 (rowsTm m.goal)]));have q4:=St.upd_same (S.upd b1 (.obj 26 [.sl .any 3 (rowsV m.vars),.sl .any 10 (rowsC m.cons),.bool m.hasGoal,.sl .any 2 (rowsTm m.goal)])) b4 (.obj 3 [.int .i64 0]);have hle:=St.le_upd' (St.le_upd' (St.le_refl S) hb1 (.obj 26 [.sl .any 3 (rowsV m.vars),.sl .any 10 (rowsC m.cons),.bool m.hasGoal,.sl .any 2 (rowsTm m.goal)])) hb4 (.obj 3 [.int .i64 0]);have z4:S b4=none:=St.no hb4;have n14:b1≠b4:=fun e=>by subst e;rw[St.upd_same] at hb4;cases hb4
 generalize (S.upd b1 (.obj 26 [.sl .any 3 (rowsV m.vars),.sl .any 10 (rowsC m.cons),.bool m.hasGoal,.sl .any 2 (rowsTm m.goal)])).upd b4 (.obj 3 [.int .i64 0])=T at *;refine awp_seq2 fun K hK hQ=>?_
 conv=>whnf
 refine⟨_,_,q1,?_⟩;conv=>whnf
 refine(hso _).mono ?_;rintro o T' ⟨b5,hb5,rfl,rfl⟩;conv=>whnf
 intro l R hl;have u4:=St.up (p:=.obj 26 [.sl .any 3 (rowsV m.vars),.sl .any 10 (rowsC m.cons),.bool m.hasGoal,.sl .any 2 (rowsTm m.goal)]) hb5 q4;have u1:=St.up (p:=.obj 26 [.sl .any 3 (rowsV m.vars),.sl .any 10 (rowsC m.cons),.bool m.hasGoal,.sl .any 2 (rowsTm m.goal)]) hb5 q1;have u5:=St.upd_same T b5 (.obj 26 [.sl .any 3 (rowsV m.vars),.sl .any 10 (rowsC m.cons),.bool m.hasGoal,.sl .any 2 (rowsTm m.goal)]);have hleU:=St.le_upd' hle hb5 (.obj 26 [.sl .any 3 (rowsV m.vars),.sl .any 10 (rowsC m.cons),.bool m.hasGoal,.sl .any 2 (rowsTm m.goal)]);generalize T.upd b5 (.obj 26 [.sl .any 3 (rowsV m.vars),.sl .any 10 (rowsC m.cons),.bool m.hasGoal,.sl .any 2 (rowsTm m.goal)])=U at *;have n4l:b4≠l:=fun e=>by rw[e,hl] at u4;cases u4
 have n1l:b1≠l:=fun e=>by rw[e,hl] at u1;cases u1
 have zl:S l=none:=St.le_none hleU hl
 have w0:IntKind.i64.wrap 0=0:=by decide
 refine(SolutionsE_ok hk (Bs:=[l,b4]) (J:=fun d S=>S l=some (.lp R .ready)∧S b4=some (.obj 3 [.int .i64 (IntKind.i64.wrap (d.length:Int))])) (F:=fun _ _=>False)
  (S:=U.upd l (.lp R .ready)) (b:=b5) ⟨fun d S S' h hj=>⟨(h l (by simp)).trans hj.1,(h b4 (by simp)).trans hj.2⟩,fun d S hj x hx=>?_,fun d v S1 K1 hj hv hT hF=>?_⟩ (St.up hl u5) ⟨St.upd_same _ _ _,(St.up hl u4).trans (by show some (Own.obj 3 [.int .i64 0])=some (Own.obj 3 [.int .i64 (IntKind.i64.wrap 0)]);rw[w0])⟩).mono ?_
 ·simp only[List.mem_cons,List.not_mem_nil,or_false] at hx
  rcases hx with rfl | rfl
  ·rw[hj.1];simp
  ·rw[hj.2];simp
 ·obtain⟨j1,j2⟩:=hj;refine⟨⟨j1,rfl⟩,?_⟩;conv=>whnf
  refine⟨j1,?_⟩;refine⟨_,_,(St.upd_ne _ _ _ _ n4l).trans j2,?_⟩;conv=>whnf
  refine⟨_,_,(St.upd_ne _ _ _ _ n4l).trans j2,?_⟩;conv=>whnf
  refine⟨(St.upd_ne _ _ _ _ n4l.symm).trans (St.upd_same _ _ _),hT _ ⟨St.upd_same _ _ _,(St.upd_ne _ _ _ _ n4l).trans ((St.upd_same _ _ _).trans ?_)⟩ fun x o hx hxo=>?_⟩
  ·rw[wrap_step,List.length_append];rfl
  ·simp only[List.mem_cons,List.not_mem_nil,or_false,not_or] at hx;rw[St.upd_ne _ _ _ _ hx.1,St.upd_ne _ _ _ _ hx.2,St.upd_ne _ _ _ _ hx.1];exact hxo
 rintro o S' ⟨hox,hfr,(⟨hJ1,hJ2⟩ | ⟨_,_,hF⟩)⟩
 ·refine⟨hox,_,hJ1,?_⟩;refine hK _ _ ?_;clear hK hQ K;have p4:(S'.del l) b4=_:=(St.del_ne _ _ _ n4l).trans hJ2;have p1:(S'.del l) b1=_:=(St.del_ne _ _ _ n1l).trans (hfr b1 _ (by simp[n1l,n14]) (St.up hl u1))
  have hle':St.le S (S'.del l):=fun x o hx=>by
   have hxl:x≠l:=fun e=>by rw[e,zl] at hx;cases hx
   have hx4:x≠b4:=fun e=>by rw[e,z4] at hx;cases hx
   rw[St.del_ne _ _ _ hxl];exact hfr x o (by simp[hxl,hx4]) (St.up hl (hleU _ _ hx))
  refine awp_seq2 fun K hK hQ=>?_
  refine⟨[2],(.free 0 (.free 1 (.free 2 (.free 3 (.free 4 .done))))),_,by decide +kernel,?_,fun _ _ h=>⟨_,.inl rfl,h⟩⟩
  conv=>whnf
  refine⟨_,_,p4,?_⟩;conv=>whnf
  refine⟨_,_,p1,?_⟩;conv=>whnf
  refine⟨.bool (productV m conF 100000).2,(hco _).mono ?_,?_⟩
  ·rintro o T2 ⟨rfl,rfl⟩;exact⟨rfl,rfl⟩
  conv=>whnf
  refine hK _ _ ?_;clear hK hQ K;conv=>whnf
  exact⟨_,_,⟨rfl,rfl⟩,hle',AV.leS_refl _ _ _⟩
 ·exact hF.elim
structure VerV where
 kind:Int
 worth:Int
 count:Int
 vals:List Int
def vAV(l:List Int):AV:=match l with | []=>.nils | _::_=>.sl .any 1 (rowsI l)
def cellsVd(v:VerV):List AV:=[.int .i64 v.kind,.int .i64 0,.int .i64 v.worth,.int .i64 v.count,vAV v.vals]
def rowVd(v:VerV):List AV:=[.int .i64 v.kind,.int .i64 0,.int .i64 v.worth,.int .i64 v.count,.sl .any 1 (rowsI v.vals)]
def vd0(k:Int):VerV:=⟨k,0,0,[]⟩
def stepA(m:ModelV)(conF:ConV→Int)(v:VerV)(l:List Int):VerV:=if v.kind=2∨worthV m conF l<v.worth then ⟨4,worthV m conF l,0,l⟩ else v
def foldA(m:ModelV)(conF:ConV→Int)(d:List (List Int)):VerV:=d.foldl (stepA m conF) (vd0 2)
def answerV(m:ModelV)(conF:ConV→Int)(holdsF:List Int→ConV→Bool):VerV×Bool:=
 if (productV m conF 100000).2 then (if m.hasGoal then foldA m conF (solsA m conF holdsF) else (match solsA m conF holdsF with | []=>vd0 2 | l::_=>⟨3,0,0,l⟩),true) else (vd0 0,false)
theorem vAV_le(S S':St)(l:List Int):AV.leS S S' (vAV l) (.sl .any 1 (rowsI l)):=by
 cases l with
 | nil=>exact rfl
 | cons x l=>exact⟨rfl,rfl⟩
theorem Answer_ok{m:ModelV}{conF:ConV→Int}{holdsF:List Int→ConV→Bool}(hk:Know G m conF holdsF)(S:St) :
 Triple P (C G) 12 [.ag (rowM m)] S fun o S'=>o=.ret (.tu [.ag (rowVd (answerV m conF holdsF).1),.bool (answerV m conF holdsF).2])∧S'=S:=by
 have hso:=fun S=>Solutions_ok (G:=G) hk.c S
 have hco:=fun S=>acounts_ok (G:=G) hk.z hk.con S
 have hwo:=fun l hl S=>Worth_ok (G:=G) hk.z hk.con l hl S
 have hsol:∀ v,solK m conF holdsF v=true→v.length=m.vars.length∧checkE m conF=0:=fun v h=>by
  unfold solK solutionV at h;simp only[Bool.and_eq_true,beq_iff_eq] at h;exact⟨inB_len h.2.1,h.1⟩
 have hzv:=hk.z.v
 unfold rowM at *;refine triple_of_awp (hT G) hm Tryz.func12 rfl (by decide +kernel) rfl (by decide +kernel) (by show 1≤_;decide +kernel) rfl ?_
 refine awp_seq2 fun K hK hQ=>?_
 conv=>whnf
 intro b1 hb1;conv=>whnf
 intro b2 hb2;conv=>whnf
 intro b3 hb3;conv=>whnf
 refine hK _ _ ?_;clear hK hQ K;have n12:b2≠b1:=St.ne_upd hb2;have n23:b3≠b2:=St.ne_upd hb3;have n13:b3≠b1:=St.ne_upd (St.no hb3);have z1:=hb1;have z2:=St.no hb2;have z3:=St.no (St.no hb3);have q3:=St.upd_same ((S.upd b1 (.obj 26 [.sl .any 3 (rowsV m.vars),.sl .any 10 (rowsC m.cons),.bool m.hasGoal,.sl .any 2 (rowsTm m.goal)])).upd b2 (.obj 39 [.int .i64 0,.int .i64 0,.int .i64 0,.int .i64 0,.nils])) b3 (.obj 4 [.bool false]);have q2:=St.up (p:=.obj 4 [.bool false]) hb3 (St.upd_same (S.upd b1 (.obj 26 [.sl .any 3 (rowsV m.vars),.sl .any 10 (rowsC m.cons),.bool m.hasGoal,.sl .any 2 (rowsTm m.goal)])) b2 (.obj 39 [.int .i64 0,.int .i64 0,.int .i64 0,.int .i64 0,.nils]));have q1:=St.up (p:=.obj 4 [.bool false]) hb3 (St.up (p:=.obj 39 [.int .i64 0,.int .i64 0,.int .i64 0,.int .i64 0,.nils]) hb2 (St.upd_same S b1 (.obj 26 [.sl .any 3 (rowsV m.vars),.sl .any 10 (rowsC m.cons),.bool m.hasGoal,.sl .any 2 (rowsTm m.goal)])));have hle:=St.le_upd' (St.le_upd' (St.le_upd' (St.le_refl S) hb1 (.obj 26 [.sl .any 3 (rowsV m.vars),.sl .any 10 (rowsC m.cons),.bool m.hasGoal,.sl .any 2 (rowsTm m.goal)])) hb2 (.obj 39 [.int .i64 0,.int .i64 0,.int .i64 0,.int .i64 0,.nils])) hb3 (.obj 4 [.bool false]);generalize ((S.upd b1 (.obj 26 [.sl .any 3 (rowsV m.vars),.sl .any 10 (rowsC m.cons),.bool m.hasGoal,.sl .any 2 (rowsTm m.goal)])).upd b2 (.obj 39 [.int .i64 0,.int .i64 0,.int .i64 0,.int .i64 0,.nils])).upd b3 (.obj 4 [.bool false])=T at *;clear hb1 hb2 hb3;refine awp_seq2 fun K hK hQ=>?_
 conv=>whnf
 refine⟨_,_,q1,?_⟩;conv=>whnf
 refine(hco _).mono ?_;rintro o T2 ⟨rfl,rfl⟩
 cases hcn:(productV m conF 100000).2 with
 | false=>
   have hav:answerV m conF holdsF=(vd0 0,false):=by unfold answerV;rw[if_neg (by rw[hcn];simp)]
   conv=>whnf
   refine⟨_,_,q2,?_⟩;conv=>whnf
   refine⟨_,_,St.ov n23 q3,?_⟩;conv=>whnf
   rw[St.upd_self q2,St.upd_self q3];refine hQ _ _ _ (by simp) ?_
   conv=>whnf
   refine⟨_,_,q2,?_⟩;conv=>whnf
   refine⟨_,_,q3,?_⟩;conv=>whnf
   exact⟨.tu [.ag (rowVd (vd0 0)),.bool false],_,⟨by rw[hav],rfl⟩,hle,⟨⟨rfl,rfl,rfl,rfl,vAV_le _ _ [],rfl⟩,rfl,rfl⟩⟩
 | true=>
 have hav:answerV m conF holdsF=(if m.hasGoal then foldA m conF (solsA m conF holdsF) else (match solsA m conF holdsF with | []=>vd0 2 | l::_=>⟨3,0,0,l⟩),true):=by unfold answerV;rw[if_pos hcn]
 generalize answerV m conF holdsF=res at *;conv=>whnf
 refine hK _ _ ?_;clear hK hQ K;refine awp_seq2 fun K hK hQ=>?_
 conv=>whnf
 intro b4 hb4;conv=>whnf
 refine⟨_,_,St.upd_same _ _ _,?_⟩;conv=>whnf
 rw[St.upd_upd];refine hK _ _ ?_;clear hK hQ K;have n14:b1≠b4:=fun e=>by rw[e,hb4] at q1;cases q1
 have n24:b2≠b4:=fun e=>by rw[e,hb4] at q2;cases q2
 have n34:b3≠b4:=fun e=>by rw[e,hb4] at q3;cases q3
 have z4:S b4=none:=St.le_none hle hb4
 have r1:=St.up (p:=.obj 39 [.int .i64 2,.int .i64 0,.int .i64 0,.int .i64 0,.nils]) hb4 q1
 have r2:=St.up (p:=.obj 39 [.int .i64 2,.int .i64 0,.int .i64 0,.int .i64 0,.nils]) hb4 q2
 have r3:=St.up (p:=.obj 39 [.int .i64 2,.int .i64 0,.int .i64 0,.int .i64 0,.nils]) hb4 q3
 have r4:=St.upd_same T2 b4 (.obj 39 [.int .i64 2,.int .i64 0,.int .i64 0,.int .i64 0,.nils])
 have hle4:=St.le_upd' hle hb4 (.obj 39 [.int .i64 2,.int .i64 0,.int .i64 0,.int .i64 0,.nils])
 generalize T2.upd b4 (.obj 39 [.int .i64 2,.int .i64 0,.int .i64 0,.int .i64 0,.nils])=T4 at *;clear q1 q2 q3 hb4 hle;refine awp_seq2 fun K hK hQ=>?_
 conv=>whnf
 refine⟨_,_,r1,?_⟩;conv=>whnf
 refine(hso _).mono ?_;rintro o T' ⟨b5,hb5,rfl,rfl⟩;conv=>whnf
 intro l R hl;have u1:=St.up (p:=.obj 26 [.sl .any 3 (rowsV m.vars),.sl .any 10 (rowsC m.cons),.bool m.hasGoal,.sl .any 2 (rowsTm m.goal)]) hb5 r1;have u2:=St.up (p:=.obj 26 [.sl .any 3 (rowsV m.vars),.sl .any 10 (rowsC m.cons),.bool m.hasGoal,.sl .any 2 (rowsTm m.goal)]) hb5 r2;have u3:=St.up (p:=.obj 26 [.sl .any 3 (rowsV m.vars),.sl .any 10 (rowsC m.cons),.bool m.hasGoal,.sl .any 2 (rowsTm m.goal)]) hb5 r3;have u4:=St.up (p:=.obj 26 [.sl .any 3 (rowsV m.vars),.sl .any 10 (rowsC m.cons),.bool m.hasGoal,.sl .any 2 (rowsTm m.goal)]) hb5 r4;have u5:=St.upd_same T4 b5 (.obj 26 [.sl .any 3 (rowsV m.vars),.sl .any 10 (rowsC m.cons),.bool m.hasGoal,.sl .any 2 (rowsTm m.goal)]);have hleU:=St.le_upd' hle4 hb5 (.obj 26 [.sl .any 3 (rowsV m.vars),.sl .any 10 (rowsC m.cons),.bool m.hasGoal,.sl .any 2 (rowsTm m.goal)]);generalize T4.upd b5 (.obj 26 [.sl .any 3 (rowsV m.vars),.sl .any 10 (rowsC m.cons),.bool m.hasGoal,.sl .any 2 (rowsTm m.goal)])=U at *;clear r1 r2 r3 r4 hle4 hb5;have l1:b1≠l:=fun e=>by rw[e,hl] at u1;cases u1
 have l2:b2≠l:=fun e=>by rw[e,hl] at u2;cases u2
 have l3:b3≠l:=fun e=>by rw[e,hl] at u3;cases u3
 have l4:b4≠l:=fun e=>by rw[e,hl] at u4;cases u4
 have zl:S l=none:=St.le_none hleU hl
 refine(SolutionsE_ok hk (Bs:=[l,b1,b2,b3,b4])
  (J:=fun d S=>S l=some (.lp R .ready)∧S b1=some (.obj 26 [.sl .any 3 (rowsV m.vars),.sl .any 10 (rowsC m.cons),.bool m.hasGoal,.sl .any 2 (rowsTm m.goal)])∧S b2=some (.obj 39 [.int .i64 0,.int .i64 0,.int .i64 0,.int .i64 0,.nils])∧S b3=some (.obj 4 [.bool false])∧(m.hasGoal=false→d=[])∧S b4=some (.obj 39 (cellsVd (foldA m conF d))))
  (F:=fun e S=>m.hasGoal=false∧∃ v,e=[v]∧S l=some (.lp R (.done .ret))∧S b2=some (.obj 39 [.int .i64 3,.int .i64 0,.int .i64 0,.int .i64 0,.sl .any 1 (rowsI v)])∧S b3=some (.obj 4 [.bool true]))
  (S:=U.upd l (.lp R .ready)) (b:=b5) ⟨fun d S S' h ⟨j1,j2,j3,j4,j5,j6⟩=>⟨(h l (by simp)).trans j1,(h b1 (by simp)).trans j2,(h b2 (by simp)).trans j3,(h b3 (by simp)).trans j4,j5,(h b4 (by simp)).trans j6⟩,
    fun d S ⟨j1,j2,j3,j4,j5,j6⟩ x hx=>?_,fun d v S1 K1 hj hv hT hF=>?_⟩ (St.up hl u5) ⟨St.upd_same _ _ _,St.up hl u1,St.up hl u2,St.up hl u3,fun _=>rfl,St.up hl u4⟩).mono ?_
 ·simp only[List.mem_cons,List.not_mem_nil,or_false] at hx
  rcases hx with rfl | rfl | rfl | rfl | rfl
  ·rw[j1];simp
  ·rw[j2];simp
  ·rw[j3];simp
  ·rw[j4];simp
  ·rw[j6];simp
 ·obtain⟨j1,j2,j3,j4,j5,j6⟩:=hj;refine⟨⟨j1,rfl⟩,?_⟩;conv=>whnf
  refine⟨j1,?_⟩;conv=>whnf
  refine⟨_,_,(St.upd_ne _ _ _ _ l1).trans j2,?_⟩;conv=>whnf
  cases hg:m.hasGoal with
  | false=>
    conv=>whnf
    refine⟨_,_,(St.upd_ne _ _ _ _ l2).trans j3,?_⟩;conv=>whnf
    refine⟨_,_,(St.upd_ne _ _ _ _ n23).trans ((St.upd_ne _ _ _ _ l3).trans j4),?_⟩;conv=>whnf
    refine⟨(St.upd_ne _ _ _ _ l3.symm).trans ((St.upd_ne _ _ _ _ l2.symm).trans (St.upd_same _ _ _)),hF _ ⟨hg,v,by rw[j5 hg];rfl,St.upd_same _ _ _,(St.upd_ne _ _ _ _ l2).trans ((St.upd_ne _ _ _ _ n23.symm).trans (St.upd_same _ _ _)),(St.upd_ne _ _ _ _ l3).trans (St.upd_same _ _ _)⟩ fun x o hx hxo=>?_⟩
    simp only[List.mem_cons,List.not_mem_nil,or_false,not_or] at hx;rw[St.upd_ne _ _ _ _ hx.1,St.upd_ne _ _ _ _ hx.2.2.2.1,St.upd_ne _ _ _ _ hx.2.2.1,St.upd_ne _ _ _ _ hx.1];exact hxo
  | true=>
    conv=>whnf
    refine⟨_,_,(St.upd_ne _ _ _ _ l1).trans j2,?_⟩;conv=>whnf
    obtain⟨hvl,hv0⟩:=hsol v hv;obtain⟨_,hvn,_⟩:=right_vars hv0;have hvc:vAV v=.sl .any 1 (rowsI v):=by
     cases v with
     | nil=>exact absurd (List.eq_nil_of_length_eq_zero (by simpa using hvl.symm)) hvn
     | cons x v=>rfl
    refine(hwo v (by rw[hvl];exact hzv) _).mono ?_
    rintro o T3 ⟨rfl,rfl⟩;conv=>whnf
    have hfs:foldA m conF (d++[v])=stepA m conF (foldA m conF d) v:=by unfold foldA;rw[List.foldl_append];rfl
    generalize foldA m conF d=fv at *;obtain⟨k,w,c,vals⟩:=fv;unfold cellsVd at j6;dsimp only at j6;unfold stepA at hfs;dsimp only at hfs;refine⟨_,_,(St.upd_ne _ _ _ _ l4).trans j6,?_⟩;conv=>whnf
    generalize worthV m conF v=wv at *
    cases hk2:(k == 2) with
    | true=>
      have hk2':k=2:=by simpa using hk2
      rw[if_pos (.inl hk2')] at hfs;conv=>whnf
      refine⟨_,_,(St.upd_ne _ _ _ _ l4).trans j6,?_⟩;conv=>whnf
      refine⟨(St.upd_ne _ _ _ _ l4.symm).trans (St.upd_same _ _ _),hT _ ⟨St.upd_same _ _ _,(St.upd_ne _ _ _ _ l1).trans ((St.upd_ne _ _ _ _ n14).trans ((St.upd_ne _ _ _ _ l1).trans j2)),(St.upd_ne _ _ _ _ l2).trans ((St.upd_ne _ _ _ _ n24).trans ((St.upd_ne _ _ _ _ l2).trans j3)),(St.upd_ne _ _ _ _ l3).trans ((St.upd_ne _ _ _ _ n34).trans ((St.upd_ne _ _ _ _ l3).trans j4)),(fun h=>by rw[hg] at h;cases h),?_⟩ fun x o hx hxo=>?_⟩
      ·rw[hfs];refine(St.upd_ne _ _ _ _ l4).trans ((St.upd_same _ _ _).trans ?_);unfold cellsVd;dsimp only;rw[hvc]
      ·simp only[List.mem_cons,List.not_mem_nil,or_false,not_or] at hx;rw[St.upd_ne _ _ _ _ hx.1,St.upd_ne _ _ _ _ hx.2.2.2.2,St.upd_ne _ _ _ _ hx.1];exact hxo
    | false=>
      have hk2':¬ k=2:=by simpa using hk2
      conv=>whnf
      refine⟨_,_,(St.upd_ne _ _ _ _ l4).trans j6,?_⟩;conv=>whnf
      cases hw2:decide (wv<w) with
      | true=>
        rw[if_pos (.inr (of_decide_eq_true hw2))] at hfs;conv=>whnf
        refine⟨_,_,(St.upd_ne _ _ _ _ l4).trans j6,?_⟩;conv=>whnf
        refine⟨(St.upd_ne _ _ _ _ l4.symm).trans (St.upd_same _ _ _),hT _ ⟨St.upd_same _ _ _,(St.upd_ne _ _ _ _ l1).trans ((St.upd_ne _ _ _ _ n14).trans ((St.upd_ne _ _ _ _ l1).trans j2)),(St.upd_ne _ _ _ _ l2).trans ((St.upd_ne _ _ _ _ n24).trans ((St.upd_ne _ _ _ _ l2).trans j3)),(St.upd_ne _ _ _ _ l3).trans ((St.upd_ne _ _ _ _ n34).trans ((St.upd_ne _ _ _ _ l3).trans j4)),(fun h=>by rw[hg] at h;cases h),?_⟩ fun x o hx hxo=>?_⟩
        ·rw[hfs];refine(St.upd_ne _ _ _ _ l4).trans ((St.upd_same _ _ _).trans ?_);unfold cellsVd;dsimp only;rw[hvc]
        ·simp only[List.mem_cons,List.not_mem_nil,or_false,not_or] at hx;rw[St.upd_ne _ _ _ _ hx.1,St.upd_ne _ _ _ _ hx.2.2.2.2,St.upd_ne _ _ _ _ hx.1];exact hxo
      | false=>
        have hw2':=of_decide_eq_false hw2
        rw[if_neg (by rintro(h | h);exact hk2' h;exact hw2' h)] at hfs
        conv=>whnf
        refine⟨St.upd_same _ _ _,hT _ ⟨St.upd_same _ _ _,(St.upd_ne _ _ _ _ l1).trans ((St.upd_ne _ _ _ _ l1).trans j2),(St.upd_ne _ _ _ _ l2).trans ((St.upd_ne _ _ _ _ l2).trans j3),(St.upd_ne _ _ _ _ l3).trans ((St.upd_ne _ _ _ _ l3).trans j4),(fun h=>by rw[hg] at h;cases h),?_⟩ fun x o hx hxo=>?_⟩
        ·rw[hfs];exact(St.upd_ne _ _ _ _ l4).trans ((St.upd_ne _ _ _ _ l4).trans j6)
        ·simp only[List.mem_cons,List.not_mem_nil,or_false,not_or] at hx;rw[St.upd_ne _ _ _ _ hx.1,St.upd_ne _ _ _ _ hx.1];exact hxo
 rintro o S' ⟨hox,hfr,(⟨j1,j2,j3,j4,j5,j6⟩ | ⟨e,he,hg,v,rfl,f1,f2,f3⟩)⟩
 ·refine⟨hox,_,j1,?_⟩;refine hK _ _ ?_;clear hK hQ K;have p4:(S'.del l) b4=_:=(St.del_ne _ _ _ l4).trans j6;have p2:(S'.del l) b2=_:=(St.del_ne _ _ _ l2).trans j3;have p3:(S'.del l) b3=_:=(St.del_ne _ _ _ l3).trans j4;have hle':St.le S (S'.del l):=fun x o hx=>by
   have hxl:x≠l:=fun e=>by rw[e,zl] at hx;cases hx
   have hx1:x≠b1:=fun e=>by rw[e,z1] at hx;cases hx
   have hx2:x≠b2:=fun e=>by rw[e,z2] at hx;cases hx
   have hx3:x≠b3:=fun e=>by rw[e,z3] at hx;cases hx
   have hx4:x≠b4:=fun e=>by rw[e,z4] at hx;cases hx
   rw[St.del_ne _ _ _ hxl];exact hfr x o (by simp[hxl,hx1,hx2,hx3,hx4]) (St.up hl (hleU _ _ hx))
  have hre:res=(foldA m conF (solsA m conF holdsF),true):=by
   rw[hav]
   cases hg:m.hasGoal with
   | true=>rfl
   | false=>rw[j5 hg];rfl
  generalize foldA m conF (solsA m conF holdsF)=fv at *;unfold cellsVd at p4;have hvl:=vAV_le
  cases hvv:fv.vals with
  | nil=>
    rw[hvv] at p4;unfold vAV at p4;conv=>whnf
    refine⟨_,_,p4,?_⟩;conv=>whnf
    refine⟨_,_,p2,?_⟩;conv=>whnf
    refine⟨_,_,(St.upd_ne _ _ _ _ n23).trans p3,?_⟩;conv=>whnf
    refine⟨_,_,(St.upd_ne _ _ _ _ n23.symm).trans (St.upd_same _ _ _),?_⟩;conv=>whnf
    refine⟨_,_,St.upd_same _ _ _,?_⟩;conv=>whnf
    refine⟨.tu [.ag (rowVd fv),.bool true],_,⟨by rw[hre],rfl⟩,St.le_upd (St.le_upd hle' z2 _) z3 _,⟨⟨rfl,rfl,rfl,rfl,?_,rfl⟩,rfl,rfl⟩⟩
    show AV.leS _ _ _ (.sl .any 1 (rowsI fv.vals))
    rw[hvv];exact vAV_le _ _ []
  | cons y0 vs=>
    rw[hvv] at p4;unfold vAV at p4;conv=>whnf
    refine⟨_,_,p4,?_⟩;conv=>whnf
    refine⟨_,_,p2,?_⟩;conv=>whnf
    refine⟨_,_,(St.upd_ne _ _ _ _ n23).trans p3,?_⟩;conv=>whnf
    refine⟨_,_,(St.upd_ne _ _ _ _ n23.symm).trans (St.upd_same _ _ _),?_⟩;conv=>whnf
    refine⟨_,_,St.upd_same _ _ _,?_⟩;conv=>whnf
    refine⟨.tu [.ag (rowVd fv),.bool true],_,⟨by rw[hre],rfl⟩,St.le_upd (St.le_upd hle' z2 _) z3 _,⟨⟨rfl,rfl,rfl,rfl,?_,rfl⟩,rfl,rfl⟩⟩
    show AV.leS _ _ _ (.sl .any 1 (rowsI fv.vals))
    rw[hvv];exact vAV_le _ _ (y0::vs)
 ·refine⟨hox,_,f1,?_⟩;have p2:(S'.del l) b2=_:=(St.del_ne _ _ _ l2).trans f2;have p3:(S'.del l) b3=_:=(St.del_ne _ _ _ l3).trans f3;have hle':St.le S (S'.del l):=fun x o hx=>by
   have hxl:x≠l:=fun e=>by rw[e,zl] at hx;cases hx
   have hx1:x≠b1:=fun e=>by rw[e,z1] at hx;cases hx
   have hx2:x≠b2:=fun e=>by rw[e,z2] at hx;cases hx
   have hx3:x≠b3:=fun e=>by rw[e,z3] at hx;cases hx
   have hx4:x≠b4:=fun e=>by rw[e,z4] at hx;cases hx
   rw[St.del_ne _ _ _ hxl];exact hfr x o (by simp[hxl,hx1,hx2,hx3,hx4]) (St.up hl (hleU _ _ hx))
  have hre:res=(⟨3,0,0,v⟩,true):=by
   obtain⟨t,ht⟩:=he;rw[hav,hg,← ht];rfl
  refine hQ _ _ _ (by simp) ?_
  conv=>whnf
  refine⟨_,_,p2,?_⟩;conv=>whnf
  refine⟨_,_,p3,?_⟩;conv=>whnf
  exact⟨.tu [.ag (rowVd ⟨3,0,0,v⟩),.bool true],_,⟨by rw[hre],rfl⟩,hle',AV.leS_refl _ _ _⟩
def allV(m:ModelV)(conF:ConV→Int)(holdsF:List Int→ConV→Bool):VerV×Bool:=
 if (productV m conF 100000).2 then (⟨6,0,IntKind.i64.wrap (solsA m conF holdsF).length,[]⟩,true) else (vd0 0,false)
theorem All_ok{m:ModelV}{conF:ConV→Int}{holdsF:List Int→ConV→Bool}(hk:Know G m conF holdsF)(S:St) :
 Triple P (C G) 13 [.ag (rowM m)] S fun o S'=>o=.ret (.tu [.ag (rowVd (allV m conF holdsF).1),.bool (allV m conF holdsF).2])∧S'=S:=by
 have hco:=fun S=>Count_ok (G:=G) hk S
 unfold allV;generalize (productV m conF 100000).2=cn at *;generalize IntKind.i64.wrap (solsA m conF holdsF).length=n at *;unfold rowM at *;refine triple_of_awp (hT G) hm Tryz.func13 rfl (by decide +kernel) rfl (by decide +kernel) (by show 1≤_;decide +kernel) rfl ?_
 refine awp_seq2 fun K hK hQ=>?_
 conv=>whnf
 intro b1 hb1;conv=>whnf
 intro b2 hb2;conv=>whnf
 refine hK _ _ ?_;clear hK hQ K;have q1:=St.up (p:=.obj 39 [.int .i64 0,.int .i64 0,.int .i64 0,.int .i64 0,.nils]) hb2 (St.upd_same S b1 (.obj 26 [.sl .any 3 (rowsV m.vars),.sl .any 10 (rowsC m.cons),.bool m.hasGoal,.sl .any 2 (rowsTm m.goal)]));have q2:=St.upd_same (S.upd b1 (.obj 26 [.sl .any 3 (rowsV m.vars),.sl .any 10 (rowsC m.cons),.bool m.hasGoal,.sl .any 2 (rowsTm m.goal)])) b2 (.obj 39 [.int .i64 0,.int .i64 0,.int .i64 0,.int .i64 0,.nils]);have hle:=St.le_upd' (St.le_upd' (St.le_refl S) hb1 (.obj 26 [.sl .any 3 (rowsV m.vars),.sl .any 10 (rowsC m.cons),.bool m.hasGoal,.sl .any 2 (rowsTm m.goal)])) hb2 (.obj 39 [.int .i64 0,.int .i64 0,.int .i64 0,.int .i64 0,.nils]);have z2:S b2=none:=St.no hb2;generalize (S.upd b1 (.obj 26 [.sl .any 3 (rowsV m.vars),.sl .any 10 (rowsC m.cons),.bool m.hasGoal,.sl .any 2 (rowsTm m.goal)])).upd b2 (.obj 39 [.int .i64 0,.int .i64 0,.int .i64 0,.int .i64 0,.nils])=T at *;refine awp_seq2 fun K hK hQ=>?_
 conv=>whnf
 refine⟨_,_,q1,?_⟩;conv=>whnf
 refine(hco _).mono ?_;rintro o T' ⟨rfl,rfl⟩;conv=>whnf
 refine hK _ _ ?_;clear hK hQ K
 cases cn with
 | false=>
   conv=>whnf
   refine⟨_,_,q2,?_⟩;conv=>whnf
   refine⟨_,_,St.upd_same _ _ _,?_⟩;conv=>whnf
   exact⟨.tu [.ag (rowVd (vd0 0)),.bool false],_,⟨rfl,rfl⟩,St.le_upd hle z2 _,⟨⟨rfl,rfl,rfl,rfl,vAV_le _ _ [],rfl⟩,rfl,rfl⟩⟩
 | true=>
   conv=>whnf
   refine⟨_,_,q2,?_⟩;conv=>whnf
   refine⟨_,_,St.upd_same _ _ _,?_⟩;conv=>whnf
   exact⟨.tu [.ag (rowVd ⟨6,0,n,[]⟩),.bool true],_,⟨rfl,rfl⟩,St.le_upd hle z2 _,⟨⟨rfl,rfl,rfl,rfl,vAV_le _ _ [],rfl⟩,rfl,rfl⟩⟩
def rowsN(l:List Nat):List (List AV):=l.map fun(d:Nat)=>[AV.int .i64 (d:Int)]
@[simp] theorem rowsN_len (l:List Nat):(rowsN l).length=l.length:=by simp[rowsN]
def byN(s:ByteArray)(i:Nat):Nat:=(s.data.toList.getD i 0).toNat
def blankAt(s:ByteArray)(i:Nat):Prop:=byN s i=32∨byN s i=9
instance (s:ByteArray) (i:Nat):Decidable (blankAt s i):=inferInstanceAs (Decidable (_∨_))
end Go.Proofs.YtjpboanohpaibaaGreatDoor.Aw

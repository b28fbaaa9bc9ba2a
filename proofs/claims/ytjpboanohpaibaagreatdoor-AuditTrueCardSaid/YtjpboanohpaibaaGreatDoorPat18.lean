/- What each kind of constraint says of values, walked. Does a constraint hold of values: walked at any constraint that may -/
import Derived.Test.YtjpboanohpaibaaGreatDoorPat17
import Derived.Test.YtjpboanohpaibaaGreatDoorPat11
import Derived.Test.YtjpboanohpaibaaGreatDoorPat12
import Derived.Test.YtjpboanohpaibaaGreatDoorPat15
import Derived.Test.YtjpboanohpaibaaGreatDoorPat10
set_option linter.all false
set_option maxRecDepth 100000
set_option maxHeartbeats 4000000
namespace Go.Proofs.YtjpboanohpaibaaGreatDoor.Aw
open Go Go.RowKit
variable {G:Nat→Option (List AV)}
theorem take_extM{α:Type}{a b:List α}{i:Nat}(ha:i<a.length)(hb:i<b.length)(h:a.take i=b.take i)(he:a[i]=b[i]):a.take (i+1)=b.take (i+1):=by
 have h1:a.take (i+1)=a.take i++[a[i]]:=by simp[List.take_append_getElem]
 have h2:b.take (i+1)=b.take i++[b[i]]:=by simp[List.take_append_getElem]
 rw[h1,h2,h,he]
def maxV(x:Int)(l:List Int):Int:=l.foldl (fun a b=>if b > a then b else a) x
def minV(x:Int)(l:List Int):Int:=l.foldl (fun a b=>if b<a then b else a) x
theorem Max_ok(x:Int)(l:List Int)(hz:l.length+2≤9223372036854775807)(S:St):Triple P (C G) 77 [.sl .any 1 (rowsI (x::l))] S fun o S'=>o=.ret (.int .i64 (maxV x l))∧S'=S:=by
 -- slices.Max[[]int,int] function,maxV what it folds
 have hl:=rowsI_len (x::l)
 have g0:(rowsI (x::l))[(0:Int).toNat]? = some [.int .i64 x]:=rfl
 have gi:∀ i,∀ h:i<l.length,(rowsI (x::l))[((i+1:Nat):Int).toNat]? = some [.int .i64 l[i]]:=fun i h=>by simp[rowsI,h]
 have hlc:(x::l).length=l.length+1:=rfl
 generalize rowsI (x::l)=rows at *;refine triple_of_awp (hT G) hm Tryz.func77 rfl (by decide +kernel) rfl (by decide +kernel) (by show 1≤_;decide +kernel) rfl ?_
 refine awp_seq2 fun K hK hQ=>?_
 conv=>whnf
 refine hK _ _ ?_;clear hK hQ K;refine awp_seq2 fun K hK hQ=>?_
 conv=>whnf
 intro _;rw[hl,hlc];conv=>whnf
 refine hK _ _ ?_;clear hK hQ K;refine awp_seq2 fun K hK hQ=>?_
 conv=>whnf
 refine⟨_,⟨by omega,g0⟩,?_⟩
 conv=>whnf
 refine hK _ _ ?_;clear hK hQ K;refine awp_seq2 fun K hK hQ=>?_
 conv=>whnf
 refine⟨⟨Nat,fun i=>[(0,.sl .any 1 rows),(3,.int .i64 (maxV x (l.take i))),(4,.int .i64 ((i+1:Nat):Int))],fun i S1=>S1=S∧i≤l.length,fun i=>l.length-i⟩,
  ⟨0,⟨⟨rfl,rfl⟩,rfl,rfl,trivial⟩,_,St.leW_refl _,rfl,Nat.zero_le _⟩,?_⟩
 rintro(i:Nat) S1 ⟨rfl,hi⟩;conv=>whnf
 intro _;rw[hl,hlc];conv=>whnf
 refine split_of (fun hlt=>?_) (fun hlt=>?_)
 ·have hlt:i<l.length:=by have:=of_decide_eq_true hlt;omega
  have w1:IntKind.i64.wrap (((i+1:Nat):Int)+1)=((i+1+1:Nat):Int):=wrap_nat (by omega)
  have hst:maxV x (l.take (i+1))=(if l[i] > maxV x (l.take i) then l[i] else maxV x (l.take i)):=by
   unfold maxV;rw[List.take_add_one,List.getElem?_eq_getElem hlt,Option.toList_some,List.foldl_append];rfl
  have hgi:=gi i hlt
  generalize l[i]=y at *;conv=>whnf
  refine⟨_,⟨by omega,hgi⟩,?_⟩
  conv=>whnf
  exact⟨i+1,⟨⟨rfl,rfl⟩,congrArg _ hst.symm,congrArg _ w1,trivial⟩,⟨_,St.leW_refl _,rfl,hlt⟩,by show l.length-(i+1)<l.length-i;omega⟩
 ·have hlt:i=l.length:=by have:=of_decide_eq_false hlt;omega
  subst hlt;refine hK _ _ ?_;clear hK hQ K;conv=>whnf
  exact⟨_,_,⟨by rw[List.take_length],rfl⟩,St.le_refl _,AV.leS_refl _ _ _⟩
theorem Min_ok(x:Int)(l:List Int)(hz:l.length+2≤9223372036854775807)(S:St):Triple P (C G) 80 [.sl .any 1 (rowsI (x::l))] S fun o S'=>o=.ret (.int .i64 (minV x l))∧S'=S:=by
 -- slices.Min[[]int,int] function,minV what it folds
 have hl:=rowsI_len (x::l)
 have g0:(rowsI (x::l))[(0:Int).toNat]? = some [.int .i64 x]:=rfl
 have gi:∀ i,∀ h:i<l.length,(rowsI (x::l))[((i+1:Nat):Int).toNat]? = some [.int .i64 l[i]]:=fun i h=>by simp[rowsI,h]
 have hlc:(x::l).length=l.length+1:=rfl
 generalize rowsI (x::l)=rows at *;refine triple_of_awp (hT G) hm Tryz.func80 rfl (by decide +kernel) rfl (by decide +kernel) (by show 1≤_;decide +kernel) rfl ?_
 refine awp_seq2 fun K hK hQ=>?_
 conv=>whnf
 refine hK _ _ ?_;clear hK hQ K;refine awp_seq2 fun K hK hQ=>?_
 conv=>whnf
 intro _;rw[hl,hlc];conv=>whnf
 refine hK _ _ ?_;clear hK hQ K;refine awp_seq2 fun K hK hQ=>?_
 conv=>whnf
 refine⟨_,⟨by omega,g0⟩,?_⟩
 conv=>whnf
 refine hK _ _ ?_;clear hK hQ K;refine awp_seq2 fun K hK hQ=>?_
 conv=>whnf
 refine⟨⟨Nat,fun i=>[(0,.sl .any 1 rows),(3,.int .i64 (minV x (l.take i))),(4,.int .i64 ((i+1:Nat):Int))],fun i S1=>S1=S∧i≤l.length,fun i=>l.length-i⟩,
  ⟨0,⟨⟨rfl,rfl⟩,rfl,rfl,trivial⟩,_,St.leW_refl _,rfl,Nat.zero_le _⟩,?_⟩
 rintro(i:Nat) S1 ⟨rfl,hi⟩;conv=>whnf
 intro _;rw[hl,hlc];conv=>whnf
 refine split_of (fun hlt=>?_) (fun hlt=>?_)
 ·have hlt:i<l.length:=by have:=of_decide_eq_true hlt;omega
  have w1:IntKind.i64.wrap (((i+1:Nat):Int)+1)=((i+1+1:Nat):Int):=wrap_nat (by omega)
  have hst:minV x (l.take (i+1))=(if l[i]<minV x (l.take i) then l[i] else minV x (l.take i)):=by
   unfold minV;rw[List.take_add_one,List.getElem?_eq_getElem hlt,Option.toList_some,List.foldl_append];rfl
  have hgi:=gi i hlt
  generalize l[i]=y at *;conv=>whnf
  refine⟨_,⟨by omega,hgi⟩,?_⟩
  conv=>whnf
  exact⟨i+1,⟨⟨rfl,rfl⟩,congrArg _ hst.symm,congrArg _ w1,trivial⟩,⟨_,St.leW_refl _,rfl,hlt⟩,by show l.length-(i+1)<l.length-i;omega⟩
 ·have hlt:i=l.length:=by have:=of_decide_eq_false hlt;omega
  subst hlt;refine hK _ _ ?_;clear hK hQ K;conv=>whnf
  exact⟨_,_,⟨by rw[List.take_length],rfl⟩,St.le_refl _,AV.leS_refl _ _ _⟩
theorem eqI_ok(a b:List Int)(hlen:a.length≤1000000000)(S:St):Triple P (C G) 111 [.sl .any 1 (rowsI a),.sl .any 1 (rowsI b)] S fun o S'=>o=.ret (.bool (decide (a=b)))∧S'=S:=by
 -- slices.Equal[[]int,int] function,rowsI rows,[.int .i64 a[i]] the row of x,[.int .i64 b[i]] the row of y,1 cells of an element
 refine triple_of_awp (hT G) hm Tryz.func111 rfl (by decide +kernel) rfl (by decide +kernel) (by show 2≤_;decide +kernel) rfl ?_
 refine awp_seq2 fun K hK hQ=>?_
 conv=>whnf
 refine hK _ _ ?_;clear hK hQ K;refine awp_seq2 fun K hK hQ=>?_
 conv=>whnf
 intro _;conv=>whnf
 intro _;conv=>whnf
 refine split_of (fun hne=>?_) (fun hne=>?_)
 ·have hne:a.length≠b.length:=by
   intro hh;rw[rowsI_len,rowsI_len,hh] at hne;simp at hne
  rw[decide_eq_false (fun e=>hne (congrArg List.length e))] at hQ
  clear hK;conv=>whnf
  refine hQ _ _ _ (by simp) ?_
  conv=>whnf
  exact⟨_,_,⟨rfl,rfl⟩,St.le_refl _,AV.leS_refl _ _ _⟩
 have hne:a.length=b.length:=by
  by_cases hh:a.length=b.length
  ·exact hh
  ·exfalso;rw[rowsI_len,rowsI_len] at hne;simp at hne;omega
 conv=>whnf
 refine hK _ _ ?_;clear hK hQ K;refine awp_seq2 fun K hK hQ=>?_
 conv=>whnf
 intro _;conv=>whnf
 refine⟨⟨Nat,fun i=>[(0,.sl .any 1 (rowsI a)),(1,.sl .any 1 (rowsI b)),(12,.int .i64 (a.length:Int)),(13,.int .i64 (i:Int))],fun i S'=>S'=S∧i≤a.length∧a.take i=b.take i,fun i=>a.length-i⟩,
  ⟨0,⟨⟨rfl,rfl⟩,⟨rfl,rfl⟩,congrArg (AV.int .i64) (by rw[rowsI_len]),rfl,trivial⟩,_,St.leW_refl _,rfl,by omega,rfl⟩,?_⟩
 rintro(i:Nat) S' ⟨rfl,hi,he⟩;conv=>whnf
 refine split_of (fun hlt=>?_) (fun hlt=>?_)
 ·have hlt:i<a.length:=by have:=of_decide_eq_true hlt;omega
  have hltb:i<b.length:=by omega
  have ga:(rowsI a)[(i:Int).toNat]? = some [.int .i64 a[i]]:=by simp[rowsI,hlt]
  have gb:(rowsI b)[(i:Int).toNat]? = some [.int .i64 b[i]]:=by simp[rowsI,hltb]
  conv=>whnf
  refine⟨[],(.free 0 (.free 1 (.free 2 (.free 3 (.free 4 (.free 5 (.free 6 (.free 7 (.free 8 .done))))))))),_,by decide +kernel,?_,fun _ _ h=>⟨_,.inl rfl,h⟩⟩
  conv=>whnf
  refine⟨_,⟨by omega,ga⟩,?_⟩
  conv=>whnf
  refine⟨_,⟨by omega,gb⟩,?_⟩
  conv=>whnf
  refine split_of (fun hx=>?_) (fun hx=>?_)
  ·have hx:a[i]≠b[i]:=by intro e;rw[e] at hx;simp at hx
   rw[decide_eq_false (fun e=>hx (by subst e;rfl))] at hQ
   clear hK;conv=>whnf
   refine hQ _ _ _ (by simp) ?_
   conv=>whnf
   exact⟨_,_,⟨rfl,rfl⟩,St.le_refl _,AV.leS_refl _ _ _⟩
  ·have hx:a[i]=b[i]:=by simpa using hx
   clear hK hQ;have w1:IntKind.i64.wrap ((i:Int)+1)=((i+1:Nat):Int):=wrap_nat (by have:=hlen;omega)
   conv=>whnf
   exact⟨i+1,⟨⟨rfl,rfl⟩,⟨rfl,rfl⟩,rfl,congrArg _ w1,trivial⟩,⟨_,St.leW_refl _,rfl,by omega,take_extM hlt hltb he hx⟩,by show a.length-(i+1)<a.length-i;omega⟩
 ·have hlt:i=a.length:=by have:=of_decide_eq_false hlt;omega
  subst hlt;have hab:a=b:=by rw[List.take_length,List.take_of_length_le (by omega)] at he;exact he
  rw[decide_eq_true hab] at hK;conv=>whnf
  refine hK _ _ ?_;clear hK hQ K;conv=>whnf
  exact⟨_,_,⟨rfl,rfl⟩,St.le_refl _,AV.leS_refl _ _ _⟩
theorem kis_ok(op n k:Int)(S:St):Triple P (C G) 107 [.int .i64 op,.int .i64 n,.int .i64 k] S fun o S'=>o=.ret (.bool (isV op n k))∧S'=S:=by
 have hsp:isV op n k=isV op n k:=rfl
 conv at hsp=>rhs;unfold isV
 generalize isV op n k=res at *;refine triple_of_awp (hT G) hm Tryz.func107 rfl (by decide +kernel) rfl (by decide +kernel) (by show 3≤_;decide +kernel) rfl ?_
 refine awp_seq2 fun K hK hQ=>?_
 conv=>whnf
 refine hK _ _ ?_;clear hK hQ K;refine awp_seq2 fun K hK hQ=>?_
 conv=>whnf
 refine split_of (fun h1=>?_) (fun h1=>?_)
 ·have h1:op=1:=by simpa using h1
  conv=>whnf
  refine hQ _ _ _ (by simp) ?_
  clear hK hQ K;conv=>whnf
  exact⟨_,_,⟨by rw[hsp,if_pos h1],rfl⟩,St.le_refl _,AV.leS_refl _ _ _⟩
 have h1:¬ op=1:=by simpa using h1
 conv=>whnf
 refine split_of (fun h2=>?_) (fun h2=>?_)
 ·have h2:op=3:=by simpa using h2
  conv=>whnf
  refine hQ _ _ _ (by simp) ?_
  clear hK hQ K;conv=>whnf
  exact⟨_,_,⟨by rw[hsp,if_neg h1,if_pos h2],rfl⟩,St.le_refl _,AV.leS_refl _ _ _⟩
 have h2:¬ op=3:=by simpa using h2
 conv=>whnf
 refine hK _ _ ?_;clear hK hQ K;conv=>whnf
 exact⟨_,_,⟨by rw[hsp,if_neg h1,if_neg h2];congr 2,rfl⟩,St.le_refl _,AV.leS_refl _ _ _⟩
theorem eachA_ok(xs:List Int)(hn:xs.length≤100000000){g:FuncId}{caps:List AV}{f:Int→Int}{S:St}(hf:∀ x∈xs,∀ S1,St.le S S1→Triple P (C G) g (.int .i64 x::caps) S1 fun o S'=>o=.ret (.int .i64 (f x))∧S'=S1)(hne:xs≠[]) :
 Triple P (C G) 78 [.sl .any 1 (rowsI xs),.fn (.func g) [] caps] S fun o S'=>o=.ret (.sl .any 1 (rowsI (xs.map f)))∧S'=S:=
 (each_ok xs hn hf hne).lessen fun o S' ⟨b,hb,ho,hS⟩=>by
   subst ho;subst hS;exact⟨.ret (.sl .any 1 (rowsI (xs.map f))),S,⟨rfl,rfl⟩,St.le_upd' (St.le_refl S) hb _,⟨rfl,rfl⟩⟩
def klinV(vals:List Int)(c:ConV):Bool:=isV c.op (sumV (at0 vals) c.terms) c.k
theorem sumA_ok{vals:List Int}{l:List TermV}(hl:l.length+1≤9223372036854775807)(hx:∀ t∈l,0≤t.2∧t.2<vals.length)(S:St) :
 Triple P (C G) 36 [.sl .any 2 (rowsTm l),.fn (.func 55) [] [.imm [.sl .any 1 (rowsI vals)]]] S fun o S'=>o=.ret (.int .i64 (sumV (at0 vals) l))∧S'=S:=
 sumI_ok (G:=G) l hl (cp:=[.sl .any 1 (rowsI vals)]) fun t ht S1 _=>holds1_ok (hx t ht).1 (hx t ht).2 S1
theorem klin_ok{vals:List Int}{c:ConV}(hl:c.terms.length+1≤9223372036854775807)(hx:∀ t∈c.terms,0≤t.2∧t.2<vals.length)(S:St) :
 Triple P (C G) 72 [.ag (rowC c),.fn (.func 55) [] [.imm [.sl .any 1 (rowsI vals)]]] S fun o S'=>o=.ret (.bool (klinV vals c))∧S'=S:=by
 have hs:=fun S=>sumA_ok (G:=G) hl hx S
 have hi:=fun S=>kis_ok (G:=G) c.op (sumV (at0 vals) c.terms) c.k S
 unfold klinV
 -- hallmark/model.lin the function,#2 how it goes on
 refine triple_of_awp (hT G) hm Tryz.func72 rfl (by decide +kernel) rfl (by decide +kernel) (by show 2≤_;decide +kernel) rfl ?_
 refine awp_seq2 fun K hK hQ=>?_
 conv=>whnf
 intro b2 hb2;conv=>whnf
 have q2:(S.upd b2 (.obj 51 (rowC c))) b2=some (.obj 51 (rowC c)):=St.upd_same _ _ _
 have hle:St.le S (S.upd b2 (.obj 51 (rowC c))):=St.le_upd' (St.le_refl S) hb2 _
 refine hK _ _ ?_;clear hK hQ K;change awp _ _ _ _ (S.upd b2 (.obj 51 (rowC c))) _;generalize S.upd b2 (.obj 51 (rowC c))=T at *;refine awp_seq2 fun K hK hQ=>?_
 refine⟨[5],(.free 0 (.free 1 (.free 2 (.free 3 (.free 4 (.free 5 (.free 6 (.free 7 (.one 8 (.free 9 .done) .none))))))))),_,by decide +kernel,?_,fun _ _ h=>⟨_,.inl rfl,h⟩⟩
 conv=>whnf
 refine⟨_,_,q2,?_⟩;conv=>whnf
 refine⟨_,_,q2,?_⟩;conv=>whnf
 -- a quiet call: .int .i64 (sumV (at0 vals) c.terms) its answer,hs _ its contract
 refine⟨.int .i64 (sumV (at0 vals) c.terms),?_,?_⟩
 ·conv=>whnf
  refine(hs _).mono ?_;rintro o T2 ⟨rfl,rfl⟩;exact⟨rfl,rfl⟩
 conv=>whnf
 refine⟨_,_,q2,?_⟩;conv=>whnf
 refine(hi _).mono ?_;rintro o T' ⟨rfl,rfl⟩;conv=>whnf
 refine hK _ _ ?_;clear hK hQ K;conv=>whnf
 exact⟨_,_,⟨rfl,rfl⟩,hle,AV.leS_refl _ _ _⟩
def kneV(vals:List Int)(c:ConV):Bool:=at0 vals c.x != IntKind.i64.wrap (at0 vals c.y+c.k)
theorem kne_ok{vals:List Int}{c:ConV}(hx:0≤c.x∧c.x<vals.length)(hy:0≤c.y∧c.y<vals.length)(S:St) :
 Triple P (C G) 73 [.ag (rowC c),.fn (.func 55) [] [.imm [.sl .any 1 (rowsI vals)]]] S fun o S'=>o=.ret (.bool (kneV vals c))∧S'=S:=by
 have ha:=fun S=>holds1_ok (G:=G) hx.1 hx.2 S
 have hb:=fun S=>holds1_ok (G:=G) hy.1 hy.2 S
 unfold kneV
 -- hallmark/model.kinds$1 the function,#2 how it goes on
 refine triple_of_awp (hT G) hm Tryz.func73 rfl (by decide +kernel) rfl (by decide +kernel) (by show 2≤_;decide +kernel) rfl ?_
 refine awp_seq2 fun K hK hQ=>?_
 conv=>whnf
 intro b2 hb2;conv=>whnf
 have q2:(S.upd b2 (.obj 51 (rowC c))) b2=some (.obj 51 (rowC c)):=St.upd_same _ _ _
 have hle:St.le S (S.upd b2 (.obj 51 (rowC c))):=St.le_upd' (St.le_refl S) hb2 _
 refine hK _ _ ?_;clear hK hQ K;change awp _ _ _ _ (S.upd b2 (.obj 51 (rowC c))) _;generalize S.upd b2 (.obj 51 (rowC c))=T at *;refine awp_seq2 fun K hK hQ=>?_
 refine⟨[3,7],(.free 0 (.free 1 (.free 2 (.free 3 (.free 4 (.free 5 (.free 6 (.free 7 (.free 8 (.free 9 (.free 10 (.free 11 (.free 12 .done))))))))))))),_,by decide +kernel,?_,fun _ _ h=>⟨_,.inl rfl,h⟩⟩
 conv=>whnf
 refine⟨_,_,q2,?_⟩;conv=>whnf
 -- a quiet call: .int .i64 (at0 vals c.x) its answer,ha _ its contract
 refine⟨.int .i64 (at0 vals c.x),?_,?_⟩
 ·conv=>whnf
  refine(ha _).mono ?_;rintro o T2 ⟨rfl,rfl⟩;exact⟨rfl,rfl⟩
 conv=>whnf
 refine⟨_,_,q2,?_⟩;conv=>whnf
 -- a quiet call: .int .i64 (at0 vals c.y) its answer,hb _ its contract
 refine⟨.int .i64 (at0 vals c.y),?_,?_⟩
 ·conv=>whnf
  refine(hb _).mono ?_;rintro o T2 ⟨rfl,rfl⟩;exact⟨rfl,rfl⟩
 conv=>whnf
 refine⟨_,_,q2,?_⟩;conv=>whnf
 refine hK _ _ ?_;clear hK hQ K;conv=>whnf
 exact⟨_,_,⟨rfl,rfl⟩,hle,AV.leS_refl _ _ _⟩
def kreifV(vals:List Int)(c:ConV):Bool:=bif decide (sumV (at0 vals) c.terms≤c.k) then at0 vals c.x == 1 else at0 vals c.x == 0
theorem kreif_ok{vals:List Int}{c:ConV}(hl:c.terms.length+1≤9223372036854775807)(ht:∀ t∈c.terms,0≤t.2∧t.2<vals.length)(hx:0≤c.x∧c.x<vals.length)(S:St) :
 Triple P (C G) 81 [.ag (rowC c),.fn (.func 55) [] [.imm [.sl .any 1 (rowsI vals)]]] S fun o S'=>o=.ret (.bool (kreifV vals c))∧S'=S:=by
 have hs:=fun S=>sumA_ok (G:=G) hl ht S
 have ha:=fun S=>holds1_ok (G:=G) hx.1 hx.2 S
 have hsp:kreifV vals c=kreifV vals c:=rfl
 conv at hsp=>rhs;unfold kreifV
 generalize kreifV vals c=res at *
 -- hallmark/model.reif the function,#2 how it goes on
 refine triple_of_awp (hT G) hm Tryz.func81 rfl (by decide +kernel) rfl (by decide +kernel) (by show 2≤_;decide +kernel) rfl ?_
 refine awp_seq2 fun K hK hQ=>?_
 conv=>whnf
 intro b2 hb2;conv=>whnf
 have q2:(S.upd b2 (.obj 51 (rowC c))) b2=some (.obj 51 (rowC c)):=St.upd_same _ _ _
 have hle:St.le S (S.upd b2 (.obj 51 (rowC c))):=St.le_upd' (St.le_refl S) hb2 _
 refine hK _ _ ?_;clear hK hQ K;change awp _ _ _ _ (S.upd b2 (.obj 51 (rowC c))) _;generalize S.upd b2 (.obj 51 (rowC c))=T at *;refine awp_seq2 fun K hK hQ=>?_
 conv=>whnf
 refine⟨_,_,q2,?_⟩;conv=>whnf
 refine(ha _).mono ?_;rintro o T' ⟨rfl,rfl⟩;conv=>whnf
 refine hK _ _ ?_;clear hK hQ K;refine awp_seq2 fun K hK hQ=>?_
 refine awp_seq2 fun K2 hK2 hQ2=>?_
 refine⟨[3],(.free 0 (.free 1 (.free 2 (.free 3 (.free 4 (.free 5 (.free 6 .done))))))),_,by decide +kernel,?_,fun _ _ h=>⟨_,.inl rfl,h⟩⟩
 conv=>whnf
 refine⟨_,_,q2,?_⟩;conv=>whnf
 -- a quiet call: .int .i64 (sumV (at0 vals) c.terms) its answer,hs _ its contract
 refine⟨.int .i64 (sumV (at0 vals) c.terms),?_,?_⟩
 ·conv=>whnf
  refine(hs _).mono ?_;rintro o T2 ⟨rfl,rfl⟩;exact⟨rfl,rfl⟩
 conv=>whnf
 refine⟨_,_,q2,?_⟩;conv=>whnf
 refine hK2 _ _ ?_;clear hK2 hQ2 K2;conv=>whnf
 refine split_of (fun h=>?_) (fun h=>?_)
 ·rw[h] at hsp;conv=>whnf
  refine hQ _ _ _ (by simp) ?_
  clear hK hQ K;conv=>whnf
  exact⟨_,_,⟨by rw[hsp];rfl,rfl⟩,hle,AV.leS_refl _ _ _⟩
 ·rw[h] at hsp;conv=>whnf
  refine hK _ _ ?_;clear hK hQ K;conv=>whnf
  exact⟨_,_,⟨by rw[hsp];rfl,rfl⟩,hle,AV.leS_refl _ _ _⟩
def kelemV(vals:List Int)(c:ConV):Bool:=decide (at0 vals c.x ≥ 0) && (decide (at0 vals c.x<c.table.length) && at0 vals c.y == at0 c.table (at0 vals c.x))
def extV(mx:Bool)(vals:List Int)(c:ConV):Bool:=at0 vals c.y == (match c.xs.map (at0 vals) with | []=>0 | x::l=>bif mx then maxV x l else minV x l)
theorem eachH_ok{vals xs:List Int}(hn:xs.length≤100000000)(hx:∀ x∈xs,0≤x∧x<vals.length)(hne:xs≠[])(S:St) :
 Triple P (C G) 78 [.sl .any 1 (rowsI xs),.fn (.func 55) [] [.imm [.sl .any 1 (rowsI vals)]]] S fun o S'=>o=.ret (.sl .any 1 (rowsI (xs.map (at0 vals))))∧S'=S:=
 eachA_ok xs hn (caps:=[.imm [.sl .any 1 (rowsI vals)]]) (fun x hxx S1 _=>holds1_ok (hx x hxx).1 (hx x hxx).2 S1) hne
theorem maxK_ok{vals:List Int}{c:ConV}(hn:c.xs.length≤100000000)(hne:c.xs≠[])(hx:∀ x∈c.xs,0≤x∧x<vals.length)(hy:0≤c.y∧c.y<vals.length)(S:St) :
 Triple P (C G) 76 [.ag (rowC c),.fn (.func 55) [] [.imm [.sl .any 1 (rowsI vals)]]] S fun o S'=>o=.ret (.bool (extV true vals c))∧S'=S:=by
 -- hallmark/model.kinds$2 function,true max?,Max_ok its contract
 have ha:=fun S=>holds1_ok (G:=G) hy.1 hy.2 S
 have he:=fun S=>eachH_ok (G:=G) (vals:=vals) (by omega) hx hne S
 have hml:(c.xs.map (at0 vals)).length=c.xs.length:=by simp
 have hsp:extV true vals c=extV true vals c:=rfl
 conv at hsp=>rhs;unfold extV
 generalize extV true vals c=res at *;generalize c.xs.map (at0 vals)=ys at *
 match ys,hml with
 | [],h=>exact absurd h.symm (by simpa using hne)
 | y::ys,hml=>
   have hmx:=fun S=>Max_ok (G:=G) y ys (by have:(y::ys).length=ys.length+1:=rfl;omega) S
   dsimp only at hsp;generalize rowsI (y::ys)=yr at *
   -- hallmark/model.kinds$2 the function,#2 how it goes on
   refine triple_of_awp (hT G) hm Tryz.func76 rfl (by decide +kernel) rfl (by decide +kernel) (by show 2≤_;decide +kernel) rfl ?_
   refine awp_seq2 fun K hK hQ=>?_
   conv=>whnf
   intro b2 hb2;conv=>whnf
   have q2:(S.upd b2 (.obj 51 (rowC c))) b2=some (.obj 51 (rowC c)):=St.upd_same _ _ _
   have hle:St.le S (S.upd b2 (.obj 51 (rowC c))):=St.le_upd' (St.le_refl S) hb2 _
   refine hK _ _ ?_;clear hK hQ K;change awp _ _ _ _ (S.upd b2 (.obj 51 (rowC c))) _;generalize S.upd b2 (.obj 51 (rowC c))=T at *;refine awp_seq2 fun K hK hQ=>?_
   refine⟨[3,7],(.free 0 (.free 1 (.free 2 (.free 3 (.free 4 (.free 5 (.free 6 (.free 7 (.one 8 (.free 9 (.free 10 .done)) .none))))))))),_,by decide +kernel,?_,fun _ _ h=>⟨_,.inl rfl,h⟩⟩
   conv=>whnf
   refine⟨_,_,q2,?_⟩;conv=>whnf
   -- a quiet call: .int .i64 (at0 vals c.y) its answer,ha _ its contract
   refine⟨.int .i64 (at0 vals c.y),?_,?_⟩
   ·conv=>whnf
    refine(ha _).mono ?_;rintro o T2 ⟨rfl,rfl⟩;exact⟨rfl,rfl⟩
   conv=>whnf
   refine⟨_,_,q2,?_⟩;conv=>whnf
   -- a quiet call: .sl .any 1 yr its answer,he _ its contract
   refine⟨.sl .any 1 yr,?_,?_⟩
   ·conv=>whnf
    refine(he _).mono ?_;rintro o T2 ⟨rfl,rfl⟩;exact⟨rfl,rfl⟩
   conv=>whnf
   refine(hmx _).mono ?_;rintro o T' ⟨rfl,rfl⟩;conv=>whnf
   subst hsp;refine hK _ _ ?_;clear hK hQ K;conv=>whnf
   exact⟨_,_,⟨rfl,rfl⟩,hle,AV.leS_refl _ _ _⟩
theorem minK_ok{vals:List Int}{c:ConV}(hn:c.xs.length≤100000000)(hne:c.xs≠[])(hx:∀ x∈c.xs,0≤x∧x<vals.length)(hy:0≤c.y∧c.y<vals.length)(S:St) :
 Triple P (C G) 79 [.ag (rowC c),.fn (.func 55) [] [.imm [.sl .any 1 (rowsI vals)]]] S fun o S'=>o=.ret (.bool (extV false vals c))∧S'=S:=by
 -- hallmark/model.kinds$3 function,false max?,Min_ok its contract
 have ha:=fun S=>holds1_ok (G:=G) hy.1 hy.2 S
 have he:=fun S=>eachH_ok (G:=G) (vals:=vals) (by omega) hx hne S
 have hml:(c.xs.map (at0 vals)).length=c.xs.length:=by simp
 have hsp:extV false vals c=extV false vals c:=rfl
 conv at hsp=>rhs;unfold extV
 generalize extV false vals c=res at *;generalize c.xs.map (at0 vals)=ys at *
 match ys,hml with
 | [],h=>exact absurd h.symm (by simpa using hne)
 | y::ys,hml=>
   have hmx:=fun S=>Min_ok (G:=G) y ys (by have:(y::ys).length=ys.length+1:=rfl;omega) S
   dsimp only at hsp;generalize rowsI (y::ys)=yr at *
   -- hallmark/model.kinds$3 the function,#2 how it goes on
   refine triple_of_awp (hT G) hm Tryz.func79 rfl (by decide +kernel) rfl (by decide +kernel) (by show 2≤_;decide +kernel) rfl ?_
   refine awp_seq2 fun K hK hQ=>?_
   conv=>whnf
   intro b2 hb2;conv=>whnf
   have q2:(S.upd b2 (.obj 51 (rowC c))) b2=some (.obj 51 (rowC c)):=St.upd_same _ _ _
   have hle:St.le S (S.upd b2 (.obj 51 (rowC c))):=St.le_upd' (St.le_refl S) hb2 _
   refine hK _ _ ?_;clear hK hQ K;change awp _ _ _ _ (S.upd b2 (.obj 51 (rowC c))) _;generalize S.upd b2 (.obj 51 (rowC c))=T at *;refine awp_seq2 fun K hK hQ=>?_
   refine⟨[3,7],(.free 0 (.free 1 (.free 2 (.free 3 (.free 4 (.free 5 (.free 6 (.free 7 (.one 8 (.free 9 (.free 10 .done)) .none))))))))),_,by decide +kernel,?_,fun _ _ h=>⟨_,.inl rfl,h⟩⟩
   conv=>whnf
   refine⟨_,_,q2,?_⟩;conv=>whnf
   -- a quiet call: .int .i64 (at0 vals c.y) its answer,ha _ its contract
   refine⟨.int .i64 (at0 vals c.y),?_,?_⟩
   ·conv=>whnf
    refine(ha _).mono ?_;rintro o T2 ⟨rfl,rfl⟩;exact⟨rfl,rfl⟩
   conv=>whnf
   refine⟨_,_,q2,?_⟩;conv=>whnf
   -- a quiet call: .sl .any 1 yr its answer,he _ its contract
   refine⟨.sl .any 1 yr,?_,?_⟩
   ·conv=>whnf
    refine(he _).mono ?_;rintro o T2 ⟨rfl,rfl⟩;exact⟨rfl,rfl⟩
   conv=>whnf
   refine(hmx _).mono ?_;rintro o T' ⟨rfl,rfl⟩;conv=>whnf
   subst hsp;refine hK _ _ ?_;clear hK hQ K;conv=>whnf
   exact⟨_,_,⟨rfl,rfl⟩,hle,AV.leS_refl _ _ _⟩
theorem table1_ok(r l:List Int)(hl:r.length≤1000000000){S:St}{b:Nat}(h:S b=some (.obj 27 [.sl .any 1 (rowsI l)])):Triple P (C G) 110 [.sl .any 1 (rowsI r),.ref b 0] S fun o S'=>o=.ret (.bool (decide (r=l)))∧S'=S:=by
 have he:=fun S=>eqI_ok (G:=G) r l hl S
 refine triple_of_awp (hT G) hm Tryz.func110 rfl (by decide +kernel) rfl (by decide +kernel) (by show 2≤_;decide +kernel) rfl ?_
 conv=>whnf
 refine⟨_,_,h,?_⟩;conv=>whnf
 refine(he _).mono ?_;rintro o T' ⟨rfl,rfl⟩;conv=>whnf
 exact⟨_,_,⟨rfl,rfl⟩,St.le_refl _,AV.leS_refl _ _ _⟩
def ktableV(vals:List Int)(c:ConV):Bool:=c.rows.any fun r=>decide (r=c.xs.map (at0 vals))
theorem ktable_ok{vals:List Int}{c:ConV}(hn:c.xs.length≤100000000)(hne:c.xs≠[])(hx:∀ x∈c.xs,0≤x∧x<vals.length)(hr:c.rows.length+1≤9223372036854775807)(hrl:∀ r∈c.rows,r.length≤1000000000)(S:St) :
 Triple P (C G) 82 [.ag (rowC c),.fn (.func 55) [] [.imm [.sl .any 1 (rowsI vals)]]] S fun o S'=>o=.ret (.bool (ktableV vals c))∧S'=S:=by
 have he:=fun S=>eachH_ok (G:=G) (vals:=vals) hn hx hne S
 unfold ktableV;generalize c.xs.map (at0 vals)=ys at *
 -- hallmark/model.table the function,#2 how it goes on
 refine triple_of_awp (hT G) hm Tryz.func82 rfl (by decide +kernel) rfl (by decide +kernel) (by show 2≤_;decide +kernel) rfl ?_
 refine awp_seq2 fun K hK hQ=>?_
 conv=>whnf
 intro b2 hb2;conv=>whnf
 have q2:(S.upd b2 (.obj 51 (rowC c))) b2=some (.obj 51 (rowC c)):=St.upd_same _ _ _
 have hle:St.le S (S.upd b2 (.obj 51 (rowC c))):=St.le_upd' (St.le_refl S) hb2 _
 refine hK _ _ ?_;clear hK hQ K;change awp _ _ _ _ (S.upd b2 (.obj 51 (rowC c))) _;generalize S.upd b2 (.obj 51 (rowC c))=T at *;refine awp_seq2 fun K hK hQ=>?_
 conv=>whnf
 refine⟨_,_,q2,?_⟩;conv=>whnf
 refine(he _).mono ?_;rintro o T' ⟨rfl,rfl⟩;conv=>whnf
 intro b5 hb5;conv=>whnf
 refine⟨_,_,St.upd_same _ _ _,?_⟩;conv=>whnf
 rw[St.upd_upd];refine hK _ _ ?_;clear hK hQ K;refine awp_seq2 fun K hK hQ=>?_
 have r2:=St.up (p:=.obj 27 [.sl .any 1 (rowsI ys)]) hb5 q2
 have r5:=St.upd_same T' b5 (.obj 27 [.sl .any 1 (rowsI ys)])
 have hle5:=St.le_upd' hle hb5 (.obj 27 [.sl .any 1 (rowsI ys)])
 generalize T'.upd b5 (.obj 27 [.sl .any 1 (rowsI ys)])=U at *;conv=>whnf
 refine⟨_,_,r2,?_⟩;conv=>whnf
 refine(ContainsL_ok (G:=G) (xs:=c.rows) hr (p:=fun r=>decide (r=ys)) fun r hrr=>table1_ok r ys (hrl r hrr) r5).mono ?_
 rintro o U' ⟨rfl,rfl⟩;conv=>whnf
 refine hK _ _ ?_;clear hK hQ K;conv=>whnf
 exact⟨_,_,⟨rfl,rfl⟩,hle5,AV.leS_refl _ _ _⟩
def cntIn(v:Int)(l:List Int):Int:=l.foldl (fun n x=>bif x == v then IntKind.i64.wrap (n+1) else n) 0
def kcountV(vals:List Int)(c:ConV):Bool:=isV c.op (cntIn c.v (c.xs.map (at0 vals))) c.k
theorem kcount_ok{vals:List Int}{c:ConV}(hn:c.xs.length≤100000000)(hne:c.xs≠[])(hx:∀ x∈c.xs,0≤x∧x<vals.length)(S:St) :
 Triple P (C G) 83 [.ag (rowC c),.fn (.func 55) [] [.imm [.sl .any 1 (rowsI vals)]]] S fun o S'=>o=.ret (.bool (kcountV vals c))∧S'=S:=by
 have he:=fun S=>eachH_ok (G:=G) (vals:=vals) hn hx hne S
 have hml:(c.xs.map (at0 vals)).length=c.xs.length:=by simp
 unfold kcountV;generalize c.xs.map (at0 vals)=ys at *;have hi:=fun S=>kis_ok (G:=G) c.op (cntIn c.v ys) c.k S
 have hyl:=rowsI_len ys
 -- hallmark/model.count the function,#2 how it goes on
 refine triple_of_awp (hT G) hm Tryz.func83 rfl (by decide +kernel) rfl (by decide +kernel) (by show 2≤_;decide +kernel) rfl ?_
 refine awp_seq2 fun K hK hQ=>?_
 conv=>whnf
 intro b2 hb2;conv=>whnf
 have q2:(S.upd b2 (.obj 51 (rowC c))) b2=some (.obj 51 (rowC c)):=St.upd_same _ _ _
 have hle:St.le S (S.upd b2 (.obj 51 (rowC c))):=St.le_upd' (St.le_refl S) hb2 _
 refine hK _ _ ?_;clear hK hQ K;change awp _ _ _ _ (S.upd b2 (.obj 51 (rowC c))) _;generalize S.upd b2 (.obj 51 (rowC c))=T at *;refine awp_seq2 fun K hK hQ=>?_
 conv=>whnf
 refine hK _ _ ?_;clear hK hQ K;refine awp_seq2 fun K hK hQ=>?_
 conv=>whnf
 refine⟨_,_,q2,?_⟩;conv=>whnf
 refine(he _).mono ?_;rintro o T' ⟨rfl,rfl⟩;conv=>whnf
 intro _;rw[hyl];conv=>whnf
 refine⟨⟨Nat,fun i=>[(2,.ref b2 0),(5,.int .i64 (cntIn c.v (ys.take i))),(11,.sl .any 1 (rowsI ys)),(12,.int .i64 (ys.length:Int)),(13,.int .i64 (i:Int))],fun i S1=>S1=T'∧i≤ys.length,fun i=>ys.length-i⟩,
  ⟨0,⟨rfl,rfl,⟨rfl,rfl⟩,rfl,rfl,trivial⟩,_,St.leW_refl _,rfl,Nat.zero_le _⟩,?_⟩
 rintro(i:Nat) S1 ⟨rfl,hil⟩;conv=>whnf
 refine split_of (fun hlt=>?_) (fun hlt=>?_)
 ·have hlt:i<ys.length:=by have:=of_decide_eq_true hlt;omega
  have w1:IntKind.i64.wrap ((i:Int)+1)=((i+1:Nat):Int):=wrap_nat (by omega)
  have hst:cntIn c.v (ys.take (i+1))=(bif ys[i] == c.v then IntKind.i64.wrap (cntIn c.v (ys.take i)+1) else cntIn c.v (ys.take i)):=by
   unfold cntIn;rw[List.take_add_one,List.getElem?_eq_getElem hlt,Option.toList_some,List.foldl_append];rfl
  have hgi:(rowsI ys)[(i:Int).toNat]? = some [.int .i64 ys[i]]:=by simp[rowsI,hlt]
  generalize ys[i]=y at *;conv=>whnf
  refine⟨_,⟨by omega,hgi⟩,?_⟩
  conv=>whnf
  refine⟨_,_,q2,?_⟩;conv=>whnf
  refine split_of (fun h=>?_) (fun h=>?_)
  ·rw[h] at hst;conv=>whnf
   exact⟨i+1,⟨rfl,congrArg _ hst.symm,⟨rfl,rfl⟩,rfl,congrArg _ w1,trivial⟩,⟨_,St.leW_refl _,rfl,hlt⟩,by show ys.length-(i+1)<ys.length-i;omega⟩
  ·rw[h] at hst;conv=>whnf
   exact⟨i+1,⟨rfl,congrArg _ hst.symm,⟨rfl,rfl⟩,rfl,congrArg _ w1,trivial⟩,⟨_,St.leW_refl _,rfl,hlt⟩,by show ys.length-(i+1)<ys.length-i;omega⟩
 ·have hlt:i=ys.length:=by have:=of_decide_eq_false hlt;omega
  subst hlt;refine hK _ _ ?_;clear hK hQ K;refine awp_seq2 fun K hK hQ=>?_
  conv=>whnf
  refine⟨_,_,q2,?_⟩;conv=>whnf
  refine⟨_,_,q2,?_⟩;conv=>whnf
  rw[List.take_length];refine(hi _).mono ?_;rintro o T' ⟨rfl,rfl⟩;conv=>whnf
  refine hK _ _ ?_;clear hK hQ K;conv=>whnf
  exact⟨_,_,⟨rfl,rfl⟩,hle,AV.leS_refl _ _ _⟩
theorem kelement_ok{vals:List Int}{c:ConV}(hx:0≤c.x∧c.x<vals.length)(hy:0≤c.y∧c.y<vals.length)(S:St) :
 Triple P (C G) 75 [.ag (rowC c),.fn (.func 55) [] [.imm [.sl .any 1 (rowsI vals)]]] S fun o S'=>o=.ret (.bool (kelemV vals c))∧S'=S:=by
 have ha:=fun S=>holds1_ok (G:=G) hx.1 hx.2 S
 have hb:=fun S=>holds1_ok (G:=G) hy.1 hy.2 S
 have htl:=rowsI_len c.table
 have hsp:kelemV vals c=kelemV vals c:=rfl
 conv at hsp=>rhs;unfold kelemV
 generalize kelemV vals c=res at *;generalize at0 vals c.x=i at *;generalize at0 vals c.y=y at *;have hg:0≤i→i<c.table.length→(rowsI c.table)[i.toNat]? = some [.int .i64 (at0 c.table i)]:=fun h0 h1=>by
  have hlt:i.toNat<c.table.length:=by omega
  simp[rowsI,at0,hlt]
 -- hallmark/model.element the function,#2 how it goes on
 refine triple_of_awp (hT G) hm Tryz.func75 rfl (by decide +kernel) rfl (by decide +kernel) (by show 2≤_;decide +kernel) rfl ?_
 refine awp_seq2 fun K hK hQ=>?_
 conv=>whnf
 intro b2 hb2;conv=>whnf
 have q2:(S.upd b2 (.obj 51 (rowC c))) b2=some (.obj 51 (rowC c)):=St.upd_same _ _ _
 have hle:St.le S (S.upd b2 (.obj 51 (rowC c))):=St.le_upd' (St.le_refl S) hb2 _
 refine hK _ _ ?_;clear hK hQ K;change awp _ _ _ _ (S.upd b2 (.obj 51 (rowC c))) _;generalize S.upd b2 (.obj 51 (rowC c))=T at *;refine awp_seq2 fun K hK hQ=>?_
 conv=>whnf
 refine⟨_,_,q2,?_⟩;conv=>whnf
 refine(ha _).mono ?_;rintro o T' ⟨rfl,rfl⟩;conv=>whnf
 refine hK _ _ ?_;clear hK hQ K;refine awp_seq2 fun K hK hQ=>?_
 refine⟨[13],(.free 0 (.free 1 (.free 2 (.free 3 (.free 4 (.free 5 (.free 6 (.free 7 (.free 8 (.free 9 (.free 10 (.free 11 (.free 12 (.free 13 (.free 14 (.free 15 (.free 16 (.free 17 (.free 18 (.free 19 (.free 20 (.free 21 .done)))))))))))))))))))))),_,by decide +kernel,?_,fun _ _ h=>⟨_,.inl rfl,h⟩⟩
 conv=>whnf
 generalize h1:decide (i ≥ 0)=b1 at *
 cases b1 with
 | true=>
   conv=>whnf
   refine⟨_,_,q2,?_⟩;conv=>whnf
   rw[htl];generalize h2:decide (i<(c.table.length:Int))=b2' at *
   cases b2' with
   | true=>
     conv=>whnf
     refine⟨_,_,q2,?_⟩;conv=>whnf
     -- a quiet call: .int .i64 y its answer,hb _ its contract
     refine⟨.int .i64 y,?_,?_⟩
     ·conv=>whnf
      refine(hb _).mono ?_;rintro o T2 ⟨rfl,rfl⟩;exact⟨rfl,rfl⟩
     conv=>whnf
     refine⟨_,_,q2,?_⟩;conv=>whnf
     refine⟨_,⟨of_decide_eq_true h1,hg (of_decide_eq_true h1) (of_decide_eq_true h2)⟩,?_⟩;conv=>whnf
     refine hK _ _ ?_;clear hK hQ K;conv=>whnf
     exact⟨_,_,⟨by rw[hsp];rfl,rfl⟩,hle,AV.leS_refl _ _ _⟩
   | false=>
     conv=>whnf
     refine hK _ _ ?_;clear hK hQ K;conv=>whnf
     exact⟨_,_,⟨by rw[hsp];rfl,rfl⟩,hle,AV.leS_refl _ _ _⟩
 | false=>
   conv=>whnf
   refine hK _ _ ?_;clear hK hQ K;conv=>whnf
   exact⟨_,_,⟨by rw[hsp];rfl,rfl⟩,hle,AV.leS_refl _ _ _⟩
theorem conOf_zero{n:NeedsV}{c:ConV}{vars:Int}(h:conOf n c vars=0) :
 (!countsV n.terms c.terms.length || (!countsV n.xs c.xs.length || (!countsV n.table c.table.length || wideV n c)))=false∧(c.terms.any (badVarV vars) || ((n.x && noV vars c.x) || ((n.y && noV vars c.y) || c.xs.any (noV vars))))=false:=by
 unfold conOf at h;generalize (n.op && (decide (c.op<1) || decide (c.op > 3)))=a1 at h
 generalize fieldV n c=a2 at h;generalize (!countsV n.terms c.terms.length || (!countsV n.xs c.xs.length || (!countsV n.table c.table.length || wideV n c)))=a3 at *
 generalize (c.terms.any (badVarV vars) || ((n.x && noV vars c.x) || ((n.y && noV vars c.y) || c.xs.any (noV vars))))=a4 at *
 cases a1
 ·cases a2
  ·cases a3
   ·cases a4
    ·exact⟨rfl,rfl⟩
    ·cases h
   ·cases h
  ·cases h
 ·cases h
theorem noV_false{vars x:Int}(h:noV vars x=false):0≤x∧x<vars:=by
 unfold noV at h;rw[Bool.or_eq_false_iff,decide_eq_false_iff_not,decide_eq_false_iff_not] at h;omega
structure ConFit (n:NeedsV) (c:ConV) (vars:Int):Prop where
 t:∀ t∈c.terms,0≤t.2∧t.2<vars
 x:n.x=true→0≤c.x∧c.x<vars
 y:n.y=true→0≤c.y∧c.y<vars
 xs:∀ x∈c.xs,0≤x∧x<vars
 nx:n.xs=true→c.xs≠[]∧c.xs.length≤64
 nr:n.rows=true→∀ r∈c.rows,r.length=c.xs.length
theorem conFit_of{n:NeedsV}{c:ConV}{vars:Int}(h:conOf n c vars=0):ConFit n c vars:=by
 obtain⟨h1,h2⟩:=conOf_zero h;simp only[Bool.or_eq_false_iff,Bool.and_eq_false_iff,Bool.not_eq_false'] at h1 h2;obtain⟨a1,a2,a3,a4⟩:=h1;obtain⟨b1,b2,b3,b4⟩:=h2;refine⟨fun t ht=>?_,fun hx=>noV_false (b2.resolve_left (by rw[hx];decide)),fun hy=>noV_false (b3.resolve_left (by rw[hy];decide)),fun x hx=>?_,fun hx=>?_,fun hr r hrr=>?_⟩
 ·have:=List.any_eq_false.1 b1 t ht
  unfold badVarV at this;simp only[Bool.or_eq_true,decide_eq_true_eq,not_or] at this;omega
 ·have:=List.any_eq_false.1 b4 x hx
  exact noV_false (by simpa using this)
 ·unfold countsV at a2;rw[hx] at a2;simp only[Bool.not_true,Bool.false_or,Bool.and_eq_true,decide_eq_true_eq] at a2;exact⟨fun e=>by rw[e] at a2;simp at a2,by omega⟩
 ·unfold wideV at a4;rw[hr] at a4;simp only[Bool.true_and,Bool.or_eq_false_iff] at a4;have:=List.any_eq_false.1 a4.2.2 r hrr;simp only[bne_iff_ne,ne_eq,Classical.not_not] at this;omega
theorem conV_zero{c:ConV}{vars:Int}(h:conV c vars=0):∃ e∈needTab,c.kind=e.1∧ConFit e.2.1 c vars:=by
 unfold conV at h
 cases hf:needTab.find? fun e=>decide (c.kind=e.1) with
 | none=>rw[hf] at h;cases h
 | some e=>
   rw[hf] at h;exact⟨e,List.mem_of_find?_eq_some hf,by simpa using List.find?_some hf,conFit_of h⟩
def handV(vals:List Int)(c:ConV):Bool:=
 if c.kind=1 then klinV vals c else if c.kind=2 then kneV vals c else if c.kind=3 then diffV (c.xs.map (at0 vals)) else if c.kind=4 then kelemV vals c else
 if c.kind=5 then extV true vals c else if c.kind=6 then extV false vals c else if c.kind=7 then kreifV vals c else if c.kind=8 then ktableV vals c else kcountV vals c
theorem hand_ok{vals:List Int}{c:ConV}(hz:SzCon c)(e:Int×NeedsV×FuncId)(he:e∈needTab)(hk:c.kind=e.1)(hf:ConFit e.2.1 c vals.length)(S:St) :
 Triple P (C G) e.2.2 [.ag (rowC c),.fn (.func 55) [] [.imm [.sl .any 1 (rowsI vals)]]] S fun o S'=>o=.ret (.bool (handV vals c))∧S'=S:=by
 unfold handV;simp only[needTab,List.mem_cons,List.not_mem_nil,or_false] at he
 rcases he with rfl | rfl | rfl | rfl | rfl | rfl | rfl | rfl | rfl
 ·rw[if_pos hk];exact klin_ok hz.t hf.t S
 ·rw[if_neg (by rw[hk];decide),if_pos hk]
  exact kne_ok (hf.x rfl) (hf.y rfl) S
 ·rw[if_neg (by rw[hk];decide),if_neg (by rw[hk];decide),if_pos hk]
  exact allDiff_ok hf.xs (hf.nx rfl).1 (by have:=(hf.nx rfl).2;omega) S
 ·rw[if_neg (by rw[hk];decide),if_neg (by rw[hk];decide),if_neg (by rw[hk];decide),if_pos hk]
  exact kelement_ok (hf.x rfl) (hf.y rfl) S
 ·rw[if_neg (by rw[hk];decide),if_neg (by rw[hk];decide),if_neg (by rw[hk];decide),if_neg (by rw[hk];decide),if_pos hk]
  exact maxK_ok (by have:=(hf.nx rfl).2;omega) (hf.nx rfl).1 hf.xs (hf.y rfl) S
 ·rw[if_neg (by rw[hk];decide),if_neg (by rw[hk];decide),if_neg (by rw[hk];decide),if_neg (by rw[hk];decide),if_neg (by rw[hk];decide),if_pos hk]
  exact minK_ok (by have:=(hf.nx rfl).2;omega) (hf.nx rfl).1 hf.xs (hf.y rfl) S
 ·rw[if_neg (by rw[hk];decide),if_neg (by rw[hk];decide),if_neg (by rw[hk];decide),if_neg (by rw[hk];decide),if_neg (by rw[hk];decide),if_neg (by rw[hk];decide),if_pos hk]
  exact kreif_ok hz.t hf.t (hf.x rfl) S
 ·rw[if_neg (by rw[hk];decide),if_neg (by rw[hk];decide),if_neg (by rw[hk];decide),if_neg (by rw[hk];decide),if_neg (by rw[hk];decide),if_neg (by rw[hk];decide),if_neg (by rw[hk];decide),if_pos hk]
  exact ktable_ok (by have:=(hf.nx rfl).2;omega) (hf.nx rfl).1 hf.xs hz.r (fun r hr=>by have h1:=hf.nr rfl r hr;have h2:=(hf.nx rfl).2;omega) S
 ·rw[if_neg (by rw[hk];decide),if_neg (by rw[hk];decide),if_neg (by rw[hk];decide),if_neg (by rw[hk];decide),if_neg (by rw[hk];decide),if_neg (by rw[hk];decide),if_neg (by rw[hk];decide),if_neg (by rw[hk];decide)]
  exact kcount_ok (by have:=(hf.nx rfl).2;omega) (hf.nx rfl).1 hf.xs S
theorem needTab_inj(a:Int×NeedsV×FuncId)(ha:a∈needTab)(b:Int×NeedsV×FuncId)(hb:b∈needTab)(h:a.1=b.1):a=b:=by
 simp only[needTab,List.mem_cons,List.not_mem_nil,or_false] at ha hb
 rcases ha with rfl | rfl | rfl | rfl | rfl | rfl | rfl | rfl | rfl<;>rcases hb with rfl | rfl | rfl | rfl | rfl | rfl | rfl | rfl | rfl<;>first | rfl | exact absurd h (by decide)
theorem checkE_con{m:ModelV}{conF:ConV→Int}(h:checkE m conF=0):∀ c∈m.cons,conF c=0:=fun c hc=>by
 unfold checkE at h
 by_cases h1:m.vars.length=0∨32<m.vars.length
 ·rw[if_pos h1] at h;exact absurd h (by decide)
 rw[if_neg h1] at h
 by_cases h2:firstE (errsV m.vars)≠0
 ·rw[if_pos h2] at h;exact absurd h h2
 rw[if_neg h2] at h
 by_cases h3:64<m.cons.length
 ·rw[if_pos h3] at h;exact absurd h (by decide)
 rw[if_neg h3] at h
 by_cases h4:firstE (m.cons.map conF)≠0
 ·rw[if_pos h4] at h;exact absurd h h4
 exact firstE_zero (Classical.not_not.1 h4) _ (List.mem_map.2 ⟨c,hc,rfl⟩)
def holdsG(vals:List Int)(c:ConV):Bool:=!greatV vals && handV vals c
theorem Holds_ok{vals:List Int}{c:ConV}(hz:SzCon c)(hvl:vals.length+1≤9223372036854775807)(h0:conV c vals.length=0)(S:St):Triple P (C G) 34 [.ag (rowC c),.sl .any 1 (rowsI vals)] S fun o S'=>o=.ret (.bool (holdsG vals c))∧S'=S:=by
 have hsz:=fun S=>sized_ok (G:=G) vals hvl S
 have hco:=fun S=>con_ok (G:=G) c (vals.length:Int) hz S
 rw[h0] at hco;have hil:=rowsI_len vals;obtain⟨e0,he0,hk0,hf0⟩:=conV_zero h0;have hin:¬ ∀ e∈needTab,c.kind≠e.1:=fun h=>h e0 he0 hk0
 have hhand:∀ e∈needTab,c.kind=e.1→∀ S,Triple P (C G) e.2.2 [.ag (rowC c),.fn (.func 55) [] [.imm [.sl .any 1 (rowsI vals)]]] S fun o S'=>o=.ret (.bool (handV vals c))∧S'=S:=fun e he hk S=>by
  have hee:e=e0:=by
   have h1:e.1=e0.1:=hk.symm.trans hk0
   exact needTab_inj e he e0 he0 h1
  subst hee;exact hand_ok hz e he hk hf0 S
 unfold holdsG;generalize rowsI vals=vrows at *;generalize handV vals c=d at *;generalize greatV vals=g at *;refine triple_of_awp (hT G) hm Tryz.func34 rfl (by decide +kernel) rfl (by decide +kernel) (by show 2≤_;decide +kernel) rfl ?_
 refine awp_seq2 fun K hK hQ=>?_
 conv=>whnf
 intro b2 hb2;conv=>whnf
 intro b3 hb3;conv=>whnf
 refine hK _ _ ?_;clear hK hQ K;have q3:=St.upd_same (S.upd b2 (.obj 51 (rowC c))) b3 (.obj 27 [.sl .any 1 vrows]);have q2:((S.upd b2 (.obj 51 (rowC c))).upd b3 (.obj 27 [.sl .any 1 vrows])) b2=some (.obj 51 (rowC c)):=St.up hb3 (St.upd_same _ _ _);have hle:St.le S ((S.upd b2 (.obj 51 (rowC c))).upd b3 (.obj 27 [.sl .any 1 vrows])):=St.le_upd' (St.le_upd' (St.le_refl S) hb2 _) hb3 _;have hne:b3≠b2:=fun e=>by subst e;rw[St.upd_same] at hb3;cases hb3
 have hdl:((S.upd b2 (.obj 51 (rowC c))).upd b3 (.obj 27 [.sl .any 1 vrows])).del b3=S.upd b2 (.obj 51 (rowC c)):=St.del_upd hb3
 change awp _ _ _ _ ((S.upd b2 (.obj 51 (rowC c))).upd b3 (.obj 27 [.sl .any 1 vrows])) _;have hle2:St.le S (S.upd b2 (.obj 51 (rowC c))):=St.le_upd' (St.le_refl S) hb2 _;generalize (S.upd b2 (.obj 51 (rowC c))).upd b3 (.obj 27 [.sl .any 1 vrows])=T at *;refine awp_seq2 fun K hK hQ=>?_
 conv=>whnf
 refine⟨_,_,q2,?_⟩;conv=>whnf
 refine⟨_,_,q3,?_⟩;conv=>whnf
 intro _;rw[hil];conv=>whnf
 refine(hco _).mono ?_;rintro o T' ⟨rfl,rfl⟩;conv=>whnf
 refine⟨_,_,q3,?_⟩;conv=>whnf
 refine(hsz _).mono ?_;rintro o T' ⟨rfl,rfl⟩
 cases g with
 | true=>
   conv=>whnf
   refine hQ _ _ _ (by simp) ?_
   clear hK hQ K;conv=>whnf
   exact⟨_,_,⟨rfl,rfl⟩,hle,AV.leS_refl _ _ _⟩
 | false=>
   conv=>whnf
   refine hK _ _ ?_;clear hK hQ K;refine awp_seq2 fun K hK hQ=>?_
   have hS3:S b3=none:=St.le_none hle2 hb3
   refine⟨[],(.free 1 (.free 6 (.one 0 (.free 2 (.one 3 (.free 4 (.free 5 (.one 7 (.free 8 .done) .none))) (.one 5 (.one 3 (.free 4 (.one 7 (.free 8 .done) .none)) .none) .none))) (.one 2 (.one 0 (.one 3 (.free 4 (.free 5 (.one 7 (.free 8 .done) .none))) (.one 5 (.one 3 (.free 4 (.one 7 (.free 8 .done) .none)) .none) .none)) (.one 5 (.one 0 (.one 3 (.free 4 (.one 7 (.free 8 .done) .none)) .none) .none) .none)) (.one 5 (.one 0 (.free 2 (.one 3 (.free 4 (.one 7 (.free 8 .done) .none)) .none)) (.one 2 (.one 0 (.one 3 (.free 4 (.one 7 (.free 8 .done) .none)) .none) .none) .none)) .none))))),_,by decide +kernel,?_,fun _ _ h=>⟨_,.inl rfl,h⟩⟩
   refine⟨?_,⟨?_,?_⟩⟩
   ·skip
    conv=>whnf
    refine(kinds_ok _).mono ?_;rintro o T' ⟨r,hr,rfl,rfl⟩;conv=>whnf
    conv=>whnf
    refine⟨_,_,St.up hr q2,?_⟩;conv=>whnf
    refine⟨?_,?_⟩
    ·skip
     conv=>whnf
     refine⟨_,St.upd_same _ _ _,?_⟩;refine kinds_find (fun e he hk=>?_) (fun hn=>absurd hn hin)
     conv=>whnf
     conv=>whnf
     refine⟨_,_,St.up hr q2,?_⟩;conv=>whnf
     conv=>whnf
     refine(Triple.freezeF (St.up hr q3) (fun w v h=>Rel.mono (Adv.shrink (St.del_le _ _)) _ _ h) (hhand e he hk _)).mono ?_
     rintro o T' ⟨rfl,rfl⟩;conv=>whnf
     refine hK _ _ ?_;clear hK hQ K;conv=>whnf
     exact⟨_,_,⟨rfl,rfl⟩,St.le_del (St.le_upd' hle hr _) hS3,AV.leS_refl _ _ _⟩
    ·skip
     conv=>whnf
     refine⟨_,_,St.up hr q2,?_⟩;conv=>whnf
     conv=>whnf
     refine⟨_,St.upd_same _ _ _,?_⟩;refine kinds_find (fun e he hk=>?_) (fun hn=>absurd hn hin)
     conv=>whnf
     conv=>whnf
     refine(Triple.freezeF (St.up hr q3) (fun w v h=>Rel.mono (Adv.shrink (St.del_le _ _)) _ _ h) (hhand e he hk _)).mono ?_
     rintro o T' ⟨rfl,rfl⟩;conv=>whnf
     refine hK _ _ ?_;clear hK hQ K;conv=>whnf
     exact⟨_,_,⟨rfl,rfl⟩,St.le_del (St.le_upd' hle hr _) hS3,AV.leS_refl _ _ _⟩
   ·skip
    conv=>whnf
    refine⟨_,_,q2,?_⟩;conv=>whnf
    refine⟨?_,?_⟩
    ·skip
     conv=>whnf
     refine(kinds_ok _).mono ?_;rintro o T' ⟨r,hr,rfl,rfl⟩;conv=>whnf
     refine⟨?_,?_⟩
     ·skip
      conv=>whnf
      refine⟨_,St.upd_same _ _ _,?_⟩;refine kinds_find (fun e he hk=>?_) (fun hn=>absurd hn hin)
      conv=>whnf
      conv=>whnf
      refine⟨_,_,St.up hr q2,?_⟩;conv=>whnf
      conv=>whnf
      refine(Triple.freezeF (St.up hr q3) (fun w v h=>Rel.mono (Adv.shrink (St.del_le _ _)) _ _ h) (hhand e he hk _)).mono ?_
      rintro o T' ⟨rfl,rfl⟩;conv=>whnf
      refine hK _ _ ?_;clear hK hQ K;conv=>whnf
      exact⟨_,_,⟨rfl,rfl⟩,St.le_del (St.le_upd' hle hr _) hS3,AV.leS_refl _ _ _⟩
     ·skip
      conv=>whnf
      refine⟨_,_,St.up hr q2,?_⟩;conv=>whnf
      conv=>whnf
      refine⟨_,St.upd_same _ _ _,?_⟩;refine kinds_find (fun e he hk=>?_) (fun hn=>absurd hn hin)
      conv=>whnf
      conv=>whnf
      refine(Triple.freezeF (St.up hr q3) (fun w v h=>Rel.mono (Adv.shrink (St.del_le _ _)) _ _ h) (hhand e he hk _)).mono ?_
      rintro o T' ⟨rfl,rfl⟩;conv=>whnf
      refine hK _ _ ?_;clear hK hQ K;conv=>whnf
      exact⟨_,_,⟨rfl,rfl⟩,St.le_del (St.le_upd' hle hr _) hS3,AV.leS_refl _ _ _⟩
    ·skip
     conv=>whnf
     refine⟨_,_,q2,?_⟩;conv=>whnf
     conv=>whnf
     refine(kinds_ok _).mono ?_;rintro o T' ⟨r,hr,rfl,rfl⟩;conv=>whnf
     conv=>whnf
     refine⟨_,St.upd_same _ _ _,?_⟩;refine kinds_find (fun e he hk=>?_) (fun hn=>absurd hn hin)
     conv=>whnf
     conv=>whnf
     refine(Triple.freezeF (St.up hr q3) (fun w v h=>Rel.mono (Adv.shrink (St.del_le _ _)) _ _ h) (hhand e he hk _)).mono ?_
     rintro o T' ⟨rfl,rfl⟩;conv=>whnf
     refine hK _ _ ?_;clear hK hQ K;conv=>whnf
     exact⟨_,_,⟨rfl,rfl⟩,St.le_del (St.le_upd' hle hr _) hS3,AV.leS_refl _ _ _⟩
   ·skip
    conv=>whnf
    refine⟨_,_,q2,?_⟩;conv=>whnf
    refine⟨?_,?_⟩
    ·skip
     conv=>whnf
     refine(kinds_ok _).mono ?_;rintro o T' ⟨r,hr,rfl,rfl⟩;conv=>whnf
     conv=>whnf
     refine⟨_,_,St.up hr q2,?_⟩;conv=>whnf
     conv=>whnf
     refine⟨_,St.upd_same _ _ _,?_⟩;refine kinds_find (fun e he hk=>?_) (fun hn=>absurd hn hin)
     conv=>whnf
     conv=>whnf
     refine(Triple.freezeF (St.up hr q3) (fun w v h=>Rel.mono (Adv.shrink (St.del_le _ _)) _ _ h) (hhand e he hk _)).mono ?_
     rintro o T' ⟨rfl,rfl⟩;conv=>whnf
     refine hK _ _ ?_;clear hK hQ K;conv=>whnf
     exact⟨_,_,⟨rfl,rfl⟩,St.le_del (St.le_upd' hle hr _) hS3,AV.leS_refl _ _ _⟩
    ·skip
     conv=>whnf
     refine⟨_,_,q2,?_⟩;conv=>whnf
     conv=>whnf
     refine(kinds_ok _).mono ?_;rintro o T' ⟨r,hr,rfl,rfl⟩;conv=>whnf
     conv=>whnf
     refine⟨_,St.upd_same _ _ _,?_⟩;refine kinds_find (fun e he hk=>?_) (fun hn=>absurd hn hin)
     conv=>whnf
     conv=>whnf
     refine(Triple.freezeF (St.up hr q3) (fun w v h=>Rel.mono (Adv.shrink (St.del_le _ _)) _ _ h) (hhand e he hk _)).mono ?_
     rintro o T' ⟨rfl,rfl⟩;conv=>whnf
     refine hK _ _ ?_;clear hK hQ K;conv=>whnf
     exact⟨_,_,⟨rfl,rfl⟩,St.le_del (St.le_upd' hle hr _) hS3,AV.leS_refl _ _ _⟩
theorem know_of_fit{m:ModelV}(hz:SzC m)(hv:m.vars.length+1≤9223372036854775807):Know G m (fun c=>conV c m.vars.length) holdsG:=by
 have hzc:∀ c∈m.cons,SzCon c:=fun c hc=>by
  obtain⟨h1,h2,h3,h4,h5⟩:=hz.l c hc;exact⟨by omega,by omega,by omega,by omega,fun r hr=>by have:=h5 r hr;omega⟩
 have h1:=hz.c
 have h2:=hz.g
 refine⟨⟨hv,by omega,by omega⟩,hz,fun c hc S=>con_ok (G:=G) c _ (hzc c hc) S,fun h0 v hl c hc S=>?_⟩
 have hcz:conV c m.vars.length=0:=checkE_con h0 c hc
 exact Holds_ok (G:=G) (vals:=v) (hzc c hc) (by rw[hl];exact hv) (by rw[hl];exact hcz) S
theorem prodGo_val{most:Int}:∀ (l:List VarV) (n:Int),1≤n→(∀ v∈l,VarOk v)→(prodGo most l n).2=true→(prodGo most l n).1=n*(prodV l:Nat)∧(n≤most→(prodGo most l n).1≤most)
 | [],n,_,_,_=>by simp[prodGo,prodV]
 | v::l,n,hn,hv,h=>by
   have ho:=hv v (List.mem_cons_self ..)
   have o3:=ho.le
   unfold prodGo at h ⊢
   by_cases h1:n > most.tdiv (v.2.2-v.2.1+1)
   ·rw[if_pos h1] at h;cases h
   rw[if_neg h1] at h ⊢;have hk:1≤v.2.2-v.2.1+1:=by omega
   have hn2:1≤n*(v.2.2-v.2.1+1):=Int.le_trans (by omega:(1:Int)≤1*(v.2.2-v.2.1+1)) (Int.mul_le_mul_of_nonneg_right hn (by omega))
   obtain⟨g1,g2⟩:=prodGo_val l _ hn2 (fun w hw=>hv w (List.mem_cons_of_mem _ hw)) h
   have hsz:((sizeV v:Nat):Int)=v.2.2-v.2.1+1:=by unfold sizeV;omega
   refine⟨?_,fun hm=>g2 ?_⟩
   ·rw[g1]
    show _=n*((sizeV v*prodV l:Nat):Int)
    rw[Int.natCast_mul,hsz,Int.mul_assoc]
   ·have h2:n≤most.tdiv (v.2.2-v.2.1+1):=by omega
    have hm0:0≤most:=by omega
    have h3:(most.tdiv (v.2.2-v.2.1+1))*(v.2.2-v.2.1+1)≤most:=by rw[Int.tdiv_eq_ediv_of_nonneg hm0];exact Int.ediv_mul_le most (by omega)
    exact Int.le_trans (Int.mul_le_mul_of_nonneg_right h2 (by omega)) h3
def conG(m:ModelV):ConV→Int:=fun c=>conV c m.vars.length
theorem sols_le{m:ModelV}{conF:ConV→Int}{holdsF:List Int→ConV→Bool}(h:(productV m conF 100000).2=true):(solsA m conF holdsF).length≤100000:=by
 have h0:=count_zero h
 obtain⟨hv,hne,hl⟩:=right_vars h0;have hp:productV m conF 100000=prodGo 100000 m.vars 1:=by unfold productV;rw[if_pos h0]
 have h2:=h
 rw[hp] at h2;obtain⟨g1,g2⟩:=prodGo_val m.vars 1 (by decide) hv h2
 have g2:=g2 (by decide)
 rw[g1,Int.one_mul] at g2;unfold solsA;rw[if_pos h];unfold solsF;refine Nat.le_trans (List.length_filter_le _ _) ?_;rw[allFrom_len]
 show prodV (m.vars.drop 0)≤_
 rw[List.drop_zero];omega
theorem given_ok{m:ModelV}{conF:ConV→Int}{holdsF:List Int→ConV→Bool}(hk:Know G m conF holdsF)(hlim:(solsA m conF holdsF).length≤100000){S:St}{b:Nat}(hb:S b=some (.obj 26 (rowM m))) :
 Triple P (C G) 9 [.fn (.func 28) [] [.ref b 0],.int .i64 0] S fun o S'=>o=.ret (.tu [.sl .any 1 (rowsLL (solsA m conF holdsF)),.bool true])∧S'=S:=by
 refine triple_of_awp (hT G) hm Tryz.func9 rfl (by decide +kernel) rfl (by decide +kernel) (by show 2≤_;decide +kernel) rfl ?_
 refine awp_seq2 fun K hK hQ=>?_
 conv=>whnf
 intro bn hbn;conv=>whnf
 refine hK _ _ ?_;clear hK hQ K;refine awp_seq2 fun K hK hQ=>?_
 conv=>whnf
 intro bl hbl;conv=>whnf
 refine hK _ _ ?_;clear hK hQ K;refine awp_seq2 fun K hK hQ=>?_
 conv=>whnf
 refine hK _ _ ?_;clear hK hQ K;refine awp_seq2 fun K hK hQ=>?_
 conv=>whnf
 intro bw hbw;conv=>whnf
 refine⟨_,_,St.upd_same _ _ _,?_⟩;conv=>whnf
 rw[St.upd_upd];refine hK _ _ ?_;clear hK hQ K;have zw:S bw=none:=St.no (St.no hbw);have zl:S bl=none:=St.no hbl;have t1:=St.upd_same ((S.upd bn (.obj 3 [.int .i64 0])).upd bl (.obj 30 [.nils])) bw (.obj 4 [.bool true]);have t2:(((S.upd bn (.obj 3 [.int .i64 0])).upd bl (.obj 30 [.nils])).upd bw (.obj 4 [.bool true])) bn=some (.obj 3 [.int .i64 0]):=St.up hbw (St.up hbl (St.upd_same _ _ _));have t3:(((S.upd bn (.obj 3 [.int .i64 0])).upd bl (.obj 30 [.nils])).upd bw (.obj 4 [.bool true])) bl=some (.obj 30 [.nils]):=St.up hbw (St.upd_same _ _ _);have hle:St.le S (((S.upd bn (.obj 3 [.int .i64 0])).upd bl (.obj 30 [.nils])).upd bw (.obj 4 [.bool true])):=St.le_upd' (St.le_upd' (St.le_upd' (St.le_refl S) hbn _) hbl _) hbw _;change awp _ _ _ _ (((S.upd bn (.obj 3 [.int .i64 0])).upd bl (.obj 30 [.nils])).upd bw (.obj 4 [.bool true])) _;generalize ((S.upd bn (.obj 3 [.int .i64 0])).upd bl (.obj 30 [.nils])).upd bw (.obj 4 [.bool true])=T at *;refine awp_seq2 fun K hK hQ=>?_
 conv=>whnf
 refine(SolutionsF_ok (G:=G) hk (asksG bw bn bl _) (hle _ _ hb) hlim (β:=[bw,bn,bl]) ⟨t1,t2,.inl ⟨rfl,rfl,t3⟩⟩).mono ?_;rintro o U ⟨⟨x,rfl⟩,β,hfr,hJ⟩;have hleU:St.le S U:=fun y o hy=>(hfr y o (by
  simp only[List.mem_cons,List.not_mem_nil,or_false,not_or];exact⟨fun e=>(by rw[e,zw] at hy;cases hy),fun e=>(by rw[e,hbn] at hy;cases hy),fun e=>(by rw[e,zl] at hy;cases hy)⟩) (hle _ _ hy)).1
 conv=>whnf
 refine hK _ _ ?_;clear hK hQ K;generalize solsA m conF holdsF=sv at *;obtain⟨u1,u2,u3⟩:=hJ;refine awp_seq2 fun K hK hQ=>?_
 refine⟨[],(.free 0 (.free 1 (.free 2 (.free 3 .done)))),_,by decide +kernel,?_,fun _ _ h=>⟨_,.inl rfl,h⟩⟩
 rcases u3 with ⟨rfl,_,u3⟩ | ⟨ba,hd,_,u3,u4⟩
 ·conv=>whnf
  refine⟨_,_,u3,?_⟩;conv=>whnf
  refine⟨_,_,u1,?_⟩;conv=>whnf
  refine hK _ _ ?_;clear hK hQ K;conv=>whnf
  exact⟨_,_,⟨rfl,rfl⟩,hleU,⟨rfl,rfl,rfl⟩⟩
 ·conv=>whnf
  refine⟨_,_,u3,?_⟩;conv=>whnf
  refine⟨_,_,u1,?_⟩;conv=>whnf
  refine hK _ _ ?_;clear hK hQ K;conv=>whnf
  exact⟨_,_,⟨rfl,rfl⟩,hleU,⟨⟨rfl,rfl⟩,rfl,rfl⟩⟩
theorem ahead_take:∀ (i:Nat) (a b:List Int),a.take i=b.take i→aheadV a b=aheadV (a.drop i) (b.drop i)
 | 0,a,b,_=>by simp
 | i+1,[],[],_=>by simp
 | i+1,[],y::b,h=>by simp at h
 | i+1,x::a,[],h=>by simp at h
 | i+1,x::a,y::b,h=>by
   simp only[List.take_succ_cons,List.cons.injEq] at h;obtain⟨rfl,h⟩:=h;simp only[List.drop_succ_cons];rw[← ahead_take i a b h]
   show(if x=x then aheadV a b else _)=_
   rw[if_pos rfl]
theorem ahead_ok(a b:List Int)(hl:a.length+1≤9223372036854775807)(hl2:b.length+1≤9223372036854775807)(S:St):Triple P (C G) 16 [.sl .any 1 (rowsI a),.sl .any 1 (rowsI b)] S fun o S'=>o=.ret (.bool (aheadV a b))∧S'=S:=by
 have la:=rowsI_len a
 have lb:=rowsI_len b
 refine triple_of_awp (hT G) hm Tryz.func16 rfl (by decide +kernel) rfl (by decide +kernel) (by show 2≤_;decide +kernel) rfl ?_
 refine awp_seq2 fun K hK hQ=>?_
 conv=>whnf
 refine hK _ _ ?_;clear hK hQ K;refine awp_seq2 fun K hK hQ=>?_
 conv=>whnf
 refine⟨⟨Nat,fun i=>[(0,.sl .any 1 (rowsI a)),(1,.sl .any 1 (rowsI b)),(5,.int .i64 (i:Int))],fun i S1=>S1=S∧i≤a.length∧i≤b.length∧a.take i=b.take i,fun i=>a.length-i⟩,
  ⟨0,⟨⟨rfl,rfl⟩,⟨rfl,rfl⟩,rfl,trivial⟩,_,St.leW_refl _,rfl,Nat.zero_le _,Nat.zero_le _,rfl⟩,?_⟩
 rintro(i:Nat) S1 ⟨rfl,hi,hib,he⟩;have hat:=ahead_take i a b he;conv=>whnf
 intro _;rw[la];conv=>whnf
 refine split_of (fun hlt=>?_) (fun hlt=>?_)
 rotate_left
 ·have hlt:i=a.length:=by have:=of_decide_eq_false hlt;omega
  have hres:decide ((a.length:Int)<(b.length:Int))=aheadV a b:=by
   rw[hat,hlt,List.drop_length]
   cases hb:b.drop a.length with
   | nil=>
     have:b.length≤a.length:=List.drop_eq_nil_iff.1 hb
     show _=decide (0<0)
     rw[decide_eq_false (by omega)];rfl
   | cons y r=>
     have:(b.drop a.length).length=r.length+1:=by rw[hb];rfl
     rw[List.length_drop] at this
     show _=decide (0<r.length+1)
     rw[decide_eq_true (by omega),decide_eq_true (by omega)]
  conv=>whnf
  refine hK _ _ ?_;clear hK hQ K;conv=>whnf
  intro _;conv=>whnf
  intro _;conv=>whnf
  exact⟨_,_,⟨by rw[← hres,la,lb],rfl⟩,St.le_refl _,AV.leS_refl _ _ _⟩
 have hlt:i<a.length:=by have:=of_decide_eq_true hlt;omega
 conv=>whnf
 intro _;rw[lb];conv=>whnf
 refine split_of (fun hltb=>?_) (fun hltb=>?_)
 rotate_left
 ·have hltb:i=b.length:=by have:=of_decide_eq_false hltb;omega
  have hres:decide ((a.length:Int)<(b.length:Int))=aheadV a b:=by
   rw[hat,hltb,List.drop_length,decide_eq_false (by omega)]
   cases ha:a.drop b.length with
   | nil=>rfl
   | cons x r=>rfl
  conv=>whnf
  refine hK _ _ ?_;clear hK hQ K;conv=>whnf
  intro _;conv=>whnf
  intro _;conv=>whnf
  exact⟨_,_,⟨by rw[← hres,la,lb],rfl⟩,St.le_refl _,AV.leS_refl _ _ _⟩
 have hltb:i<b.length:=by have:=of_decide_eq_true hltb;omega
 have ga:(rowsI a)[(i:Int).toNat]? = some [.int .i64 a[i]]:=by simp[rowsI,hlt]
 have gb:(rowsI b)[(i:Int).toNat]? = some [.int .i64 b[i]]:=by simp[rowsI,hltb]
 have w1:IntKind.i64.wrap ((i:Int)+1)=((i+1:Nat):Int):=wrap_nat (by omega)
 have hx:a[i]=b[i]→a.take (i+1)=b.take (i+1):=fun h=>by
  rw[List.take_add_one,List.take_add_one,he,List.getElem?_eq_getElem hlt,List.getElem?_eq_getElem hltb,h]
 have hne:a[i]≠b[i]→decide (a[i]<b[i])=aheadV a b:=fun h=>by
  rw[hat,List.drop_eq_getElem_cons hlt,List.drop_eq_getElem_cons hltb]
  show _=if a[i]=b[i] then _ else decide (a[i]<b[i])
  rw[if_neg h]
 generalize a[i]=u at *;generalize b[i]=v at *;refine⟨[],(.free 0 (.free 1 (.free 2 (.free 3 (.free 4 (.free 5 (.free 6 (.free 7 (.free 8 .done))))))))),_,by decide +kernel,?_,fun _ _ h=>⟨_,.inl rfl,h⟩⟩
 conv=>whnf
 refine⟨_,⟨by omega,ga⟩,?_⟩
 conv=>whnf
 refine⟨_,⟨by omega,gb⟩,?_⟩
 conv=>whnf
 refine split_of (fun h=>?_) (fun h=>?_)
 ·have h:u≠v:=by simpa using h
  refine⟨[],(.free 0 (.free 1 (.free 2 (.free 3 (.free 4 (.free 5 (.free 6 (.free 7 (.free 8 (.free 9 .done)))))))))),_,by decide +kernel,?_,fun _ _ h=>⟨_,.inl rfl,h⟩⟩
  conv=>whnf
  refine⟨_,⟨by omega,ga⟩,?_⟩
  conv=>whnf
  refine⟨_,⟨by omega,gb⟩,?_⟩
  conv=>whnf
  refine hQ _ _ _ (by simp) ?_
  conv=>whnf
  exact⟨_,_,⟨by rw[hne h],rfl⟩,St.le_refl _,AV.leS_refl _ _ _⟩
 ·have h:u=v:=by simpa using h
  conv=>whnf
  exact⟨i+1,⟨⟨rfl,rfl⟩,⟨rfl,rfl⟩,congrArg _ w1,trivial⟩,⟨_,St.leW_refl _,rfl,hlt,hltb,hx h⟩,by show a.length-(i+1)<a.length-i;omega⟩
variable {m:ModelV} {conF:ConV→Int} {holdsF:List Int→ConV→Bool}
theorem sols_mem(h:(productV m conF 100000).2=true)(z:List Int):z∈solsA m conF holdsF↔solK m conF holdsF z=true:=by
 unfold solsA;rw[if_pos h];unfold solsF;rw[List.mem_filter];refine⟨fun h=>h.2,fun hs=>⟨?_,hs⟩⟩
 refine(mem_allFrom _ _ _).2 ⟨z,by simp,?_⟩
 show inB (m.vars.drop 0) z=true
 rw[List.drop_zero];unfold solK solutionV at hs;simp only[Bool.and_eq_true] at hs;exact hs.2.1
theorem sols_rise:(solsA m conF holdsF).Pairwise fun a b=>aheadV a b=true:=by
 unfold solsA
 split
 ·exact(allFrom_rise _ _).filter _
 ·exact List.Pairwise.nil
theorem fold4(v0:Unit):∀ (d:List (List Int)) (l:List Int),∃ l',(l'=l∨l'∈d)∧d.foldl (stepA m conF) ⟨4,worthV m conF l,0,l⟩=⟨4,worthV m conF l',0,l'⟩∧worthV m conF l'≤worthV m conF l∧∀ z∈d,worthV m conF l'≤worthV m conF z
 | [],l=>⟨l,.inl rfl,rfl,Int.le_refl _,fun z hz=>by cases hz⟩
 | x::d,l=>by
   rw[List.foldl_cons]
   by_cases h:worthV m conF x<worthV m conF l
   ·have hst:stepA m conF ⟨4,worthV m conF l,0,l⟩ x=⟨4,worthV m conF x,0,x⟩:=by unfold stepA;rw[if_pos (.inr h)]
    obtain⟨l',h1,h2,h3,h4⟩:=fold4 v0 d x;rw[hst];refine⟨l',?_,h2,by omega,fun z hz=>?_⟩
    ·rcases h1 with rfl | h1
     ·exact .inr (List.mem_cons_self ..)
     ·exact .inr (List.mem_cons_of_mem _ h1)
    ·rcases List.mem_cons.1 hz with rfl | hz
     ·exact h3
     ·exact h4 z hz
   ·have hst:stepA m conF ⟨4,worthV m conF l,0,l⟩ x=⟨4,worthV m conF l,0,l⟩:=by
     unfold stepA;rw[if_neg (by rintro(h1 | h1);exact absurd h1 (by decide:¬ (4:Int)=2);exact h h1)]
    obtain⟨l',h1,h2,h3,h4⟩:=fold4 v0 d l;rw[hst];refine⟨l',?_,h2,h3,fun z hz=>?_⟩
    ·rcases h1 with rfl | h1
     ·exact .inl rfl
     ·exact .inr (List.mem_cons_of_mem _ h1)
    ·rcases List.mem_cons.1 hz with rfl | hz
     ·omega
     ·exact h4 z hz
def AnsOk(m:ModelV)(conF:ConV→Int)(sols:List (List Int))(v:VerV):Prop:=
 (sols=[]∧v=vd0 2)∨(m.hasGoal=false∧∃ l∈sols,v=⟨3,0,0,l⟩)∨(m.hasGoal=true∧∃ l∈sols,v=⟨4,worthV m conF l,0,l⟩∧∀ z∈sols,worthV m conF l≤worthV m conF z)
theorem ans_ok(h:(productV m conF 100000).2=true):AnsOk m conF (solsA m conF holdsF) (answerV m conF holdsF).1:=by
 unfold answerV;rw[if_pos h]
 cases hg:m.hasGoal with
 | false=>
   dsimp only [Bool.false_eq_true,if_false]
   cases hs:solsA m conF holdsF with
   | nil=>exact .inl ⟨rfl,rfl⟩
   | cons l r=>exact .inr (.inl ⟨hg,l,List.mem_cons_self ..,rfl⟩)
 | true=>
   dsimp only [if_true];generalize solsA m conF holdsF=sv
   cases sv with
   | nil=>exact .inl ⟨rfl,rfl⟩
   | cons x d=>
     have hst:stepA m conF (vd0 2) x=⟨4,worthV m conF x,0,x⟩:=by unfold stepA;rw[if_pos (.inl rfl)]
     obtain⟨l',h1,h2,h3,h4⟩:=fold4 (m:=m) (conF:=conF) () d x;refine .inr (.inr ⟨hg,l',?_,?_,fun z hz=>?_⟩)
     ·rcases h1 with rfl | h1
      ·exact List.mem_cons_self ..
      ·exact List.mem_cons_of_mem _ h1
     ·unfold foldA;rw[List.foldl_cons,hst];exact h2
     ·rcases List.mem_cons.1 hz with rfl | hz
      ·exact h3
      ·exact h4 z hz
def YesNo(S:St)(o:Out)(S':St):Prop:=(∃ b,o=.ret (.bool b))∧S'=S
theorem r4size_ok(n most:Int)(h0:0≤most)(h1:most≤1000000000)(S:St):Triple P (C G) 157 [.int .i64 n,.int .i64 most] S fun o S'=>o=.ret (.bool (withinV n most))∧S'=S:=by
 have hw:IntKind.i64.wrap (0-most)=-most:=by rw[wrap_i64 (by omega) (by omega)];omega
 have hsp:withinV n most=(decide (n ≥ -most) && decide (n≤most)):=rfl
 generalize withinV n most=res at *;refine triple_of_awp (hT G) hm Tryz.func157 rfl (by decide +kernel) rfl (by decide +kernel) (by show 2≤_;decide +kernel) rfl ?_
 conv=>whnf
 rw[hw];conv=>whnf
 refine split_of (fun h=>?_) (fun h=>?_)
 ·rw[h] at hsp;conv=>whnf
  exact⟨_,_,⟨by rw[hsp];rfl,rfl⟩,St.le_refl _,AV.leS_refl _ _ _⟩
 ·rw[h] at hsp;conv=>whnf
  exact⟨_,_,⟨by rw[hsp];rfl,rfl⟩,St.le_refl _,AV.leS_refl _ _ _⟩
theorem r4Number_t(n:Int)(S:St):Triple P (C G) 139 [.int .i64 n] S (YesNo S):=by
 have h:=r4size_ok (G:=G) n 1000000000 (by decide) (by decide) S
 refine triple_of_awp (hT G) hm Tryz.func139 rfl (by decide +kernel) rfl (by decide +kernel) (by show 1≤_;decide +kernel) rfl ?_
 conv=>whnf
 refine h.mono ?_;rintro o T ⟨rfl,rfl⟩;conv=>whnf
 exact⟨_,_,⟨⟨_,rfl⟩,rfl⟩,St.le_refl _,AV.leS_refl _ _ _⟩
theorem r4Coef_t(n:Int)(S:St):Triple P (C G) 140 [.int .i64 n] S (YesNo S):=by
 have h:=r4size_ok (G:=G) n 1000000 (by decide) (by decide) S
 refine triple_of_awp (hT G) hm Tryz.func140 rfl (by decide +kernel) rfl (by decide +kernel) (by show 1≤_;decide +kernel) rfl ?_
 conv=>whnf
 refine split_of (fun _=>?_) (fun _=>?_)
 ·skip
  conv=>whnf
  refine h.mono ?_;rintro o T ⟨rfl,rfl⟩;conv=>whnf
  exact⟨_,_,⟨⟨_,rfl⟩,rfl⟩,St.le_refl _,AV.leS_refl _ _ _⟩
 ·skip
  conv=>whnf
  exact⟨_,_,⟨⟨_,rfl⟩,rfl⟩,St.le_refl _,AV.leS_refl _ _ _⟩
theorem r4place_t(x n:Int)(S:St):Triple P (C G) 158 [.int .i64 x,.int .i64 n] S (YesNo S):=by
 refine triple_of_awp (hT G) hm Tryz.func158 rfl (by decide +kernel) rfl (by decide +kernel) (by show 2≤_;decide +kernel) rfl ?_
 conv=>whnf
 repeat' (refine split_of (fun _=>?_) (fun _=>?_)<;>conv=>whnf)
 all_goals exact⟨_,_,⟨⟨_,rfl⟩,rfl⟩,St.le_refl _,AV.leS_refl _ _ _⟩
theorem r4many_t(n:Int)(S:St):Triple P (C G) 99 [.int .i64 n] S (YesNo S):=by
 refine triple_of_awp (hT G) hm Tryz.func99 rfl (by decide +kernel) rfl (by decide +kernel) (by show 1≤_;decide +kernel) rfl ?_
 conv=>whnf
 repeat' (refine split_of (fun _=>?_) (fun _=>?_)<;>conv=>whnf)
 all_goals exact⟨_,_,⟨⟨_,rfl⟩,rfl⟩,St.le_refl _,AV.leS_refl _ _ _⟩
theorem r4letter_t(n:Int)(S:St):Triple P (C G) 156 [.int .u8 n] S (YesNo S):=by
 refine triple_of_awp (hT G) hm Tryz.func156 rfl (by decide +kernel) rfl (by decide +kernel) (by show 1≤_;decide +kernel) rfl ?_
 conv=>whnf
 repeat' (refine split_of (fun _=>?_) (fun _=>?_)<;>conv=>whnf)
 all_goals exact⟨_,_,⟨⟨_,rfl⟩,rfl⟩,St.le_refl _,AV.leS_refl _ _ _⟩
set_option maxHeartbeats 8000000
def listsB(k:Int):Bool:=k == 3 || (k == 5 || (k == 6 || (k == 8 || k == 9)))
theorem r4lists_ok(k:Int)(S:St):Triple P (C G) 136 [.int .i64 k] S fun o S'=>o=.ret (.bool (listsB k))∧S'=S:=by
 have hsp:listsB k=(k == 3 || (k == 5 || (k == 6 || (k == 8 || k == 9)))):=rfl
 generalize listsB k=res at *;refine triple_of_awp (hT G) hm Tryz.func136 rfl (by decide +kernel) rfl (by decide +kernel) (by show 1≤_;decide +kernel) rfl ?_
 conv=>whnf
 refine split_of (fun h=>?_) (fun h=>?_)
 ·rw[h] at hsp;conv=>whnf
  exact⟨_,_,⟨by rw[hsp];rfl,rfl⟩,St.le_refl _,AV.leS_refl _ _ _⟩
 rw[h] at hsp;conv=>whnf
 refine split_of (fun h=>?_) (fun h=>?_)
 ·rw[h] at hsp;conv=>whnf
  exact⟨_,_,⟨by rw[hsp];rfl,rfl⟩,St.le_refl _,AV.leS_refl _ _ _⟩
 rw[h] at hsp;conv=>whnf
 refine split_of (fun h=>?_) (fun h=>?_)
 ·rw[h] at hsp;conv=>whnf
  exact⟨_,_,⟨by rw[hsp];rfl,rfl⟩,St.le_refl _,AV.leS_refl _ _ _⟩
 rw[h] at hsp;conv=>whnf
 refine split_of (fun h=>?_) (fun h=>?_)
 ·rw[h] at hsp;conv=>whnf
  exact⟨_,_,⟨by rw[hsp];rfl,rfl⟩,St.le_refl _,AV.leS_refl _ _ _⟩
 rw[h] at hsp;conv=>whnf
 exact⟨_,_,⟨by rw[hsp];rfl,rfl⟩,St.le_refl _,AV.leS_refl _ _ _⟩
theorem r4foreign_t(c:ConV)(hk:1≤c.kind∧c.kind≤9)(S:St):Triple P (C G) 135 [.ag (rowC c)] S (YesNo S):=by
 have hli:=fun k S=>r4lists_ok (G:=G) k S
 obtain⟨kind,op,terms,k,v,x,y,xs,table,rows⟩:=c;dsimp only at hk;have hkk:kind=1∨kind=2∨kind=3∨kind=4∨kind=5∨kind=6∨kind=7∨kind=8∨kind=9:=by omega
 refine triple_of_awp (hT G) hm Tryz.func135 rfl (by decide +kernel) rfl (by decide +kernel) (by show 1≤_;decide +kernel) rfl ?_
 refine awp_seq2 fun K hK hQ=>?_
 conv=>whnf
 intro b1 hb1;conv=>whnf
 have q1:=St.upd_same S b1 (.obj 51 (rowC ⟨kind,op,terms,k,v,x,y,xs,table,rows⟩))
 have hle:=St.le_upd' (St.le_refl S) hb1 (.obj 51 (rowC ⟨kind,op,terms,k,v,x,y,xs,table,rows⟩))
 refine hK _ _ ?_;clear hK hQ K;change awp _ _ _ _ (S.upd b1 (.obj 51 (rowC ⟨kind,op,terms,k,v,x,y,xs,table,rows⟩))) _;generalize S.upd b1 (.obj 51 (rowC ⟨kind,op,terms,k,v,x,y,xs,table,rows⟩))=T at *
 rcases hkk with rfl | rfl | rfl | rfl | rfl | rfl | rfl | rfl | rfl
 all_goals (refine awp_seq2 fun K hK hQ=>?_)
 all_goals (conv=>whnf)
 all_goals (refine⟨_,_,q1,?_⟩)
 all_goals (conv=>whnf)
 all_goals (refine hK _ _ ?_)
 all_goals (clear hK hQ K)
 all_goals (refine awp_seq2 fun K hK hQ=>?_)
 all_goals (conv=>whnf)
 all_goals (refine hK _ _ ?_)
 all_goals (clear hK hQ K)
 all_goals (refine awp_seq2 fun K hK hQ=>?_)
 all_goals (conv=>whnf)
 all_goals (refine(hli _ _).mono ?_)
 all_goals (rintro o T' ⟨rfl,rfl⟩)
 all_goals (conv=>whnf)
 all_goals (refine hK _ _ ?_)
 all_goals (clear hK hQ K)
 all_goals (refine awp_seq2 fun K hK hQ=>?_)
 all_goals (refine awp_seq2 fun K2 hK2 hQ2=>?_)
 all_goals (refine awp_region ?_)
 all_goals (refine aOps_cut 6 fun K' hK'=>?_)
 all_goals (conv=>whnf)
 all_goals (repeat' first | (refine⟨_,_,q1,?_⟩;conv=>whnf) | (intro _;conv=>whnf) | (refine split_of (fun _=>?_) (fun _=>?_)<;>conv=>whnf))
 all_goals (refine hK' _ _ ?_)
 all_goals (clear hK' K')
 all_goals (refine aOps_cut 6 fun K' hK'=>?_)
 all_goals (conv=>whnf)
 all_goals (repeat' first | (refine⟨_,_,q1,?_⟩;conv=>whnf) | (intro _;conv=>whnf) | (refine split_of (fun _=>?_) (fun _=>?_)<;>conv=>whnf))
 all_goals (refine hK' _ _ ?_)
 all_goals (clear hK' K')
 all_goals (conv=>whnf)
 all_goals (repeat' first | (refine⟨_,_,q1,?_⟩;conv=>whnf) | (intro _;conv=>whnf) | (refine split_of (fun _=>?_) (fun _=>?_)<;>conv=>whnf))
 skip
 all_goals (refine hK2 _ _ ?_)
 all_goals (clear hK2 hQ2 K2)
 all_goals (conv=>whnf)
 all_goals (repeat' first | (refine split_of (fun _=>?_) (fun _=>?_)<;>conv=>whnf))
 all_goals (first | (refine hK _ _ ?_) | (refine hQ _ _ _ (by simp) ?_;(conv=>whnf);exact⟨_,_,⟨⟨_,rfl⟩,rfl⟩,hle,AV.leS_refl _ _ _⟩))
 all_goals (clear hK hQ K)
 all_goals (refine awp_seq2 fun K hK hQ=>?_)
 all_goals (refine awp_region ?_)
 all_goals (refine aOps_cut 6 fun K' hK'=>?_)
 all_goals (conv=>whnf)
 all_goals (repeat' first | (refine⟨_,_,q1,?_⟩;conv=>whnf) | (intro _;conv=>whnf) | (refine split_of (fun _=>?_) (fun _=>?_)<;>conv=>whnf))
 all_goals (refine hK' _ _ ?_)
 all_goals (clear hK' K')
 all_goals (refine aOps_cut 6 fun K' hK'=>?_)
 all_goals (conv=>whnf)
 all_goals (repeat' first | (refine⟨_,_,q1,?_⟩;conv=>whnf) | (intro _;conv=>whnf) | (refine split_of (fun _=>?_) (fun _=>?_)<;>conv=>whnf))
 all_goals (refine hK' _ _ ?_)
 all_goals (clear hK' K')
 all_goals (refine aOps_cut 6 fun K' hK'=>?_)
 all_goals (conv=>whnf)
 all_goals (repeat' first | (refine⟨_,_,q1,?_⟩;conv=>whnf) | (intro _;conv=>whnf) | (refine split_of (fun _=>?_) (fun _=>?_)<;>conv=>whnf))
 all_goals (refine hK' _ _ ?_)
 all_goals (clear hK' K')
 all_goals (refine aOps_cut 6 fun K' hK'=>?_)
 all_goals (conv=>whnf)
 all_goals (repeat' first | (refine⟨_,_,q1,?_⟩;conv=>whnf) | (intro _;conv=>whnf) | (refine split_of (fun _=>?_) (fun _=>?_)<;>conv=>whnf))
 all_goals (refine hK' _ _ ?_)
 all_goals (clear hK' K')
 all_goals (refine aOps_cut 6 fun K' hK'=>?_)
 all_goals (conv=>whnf)
 all_goals (repeat' first | (refine⟨_,_,q1,?_⟩;conv=>whnf) | (intro _;conv=>whnf) | (refine split_of (fun _=>?_) (fun _=>?_)<;>conv=>whnf))
 all_goals (refine hK' _ _ ?_)
 all_goals (clear hK' K')
 all_goals (refine aOps_cut 6 fun K' hK'=>?_)
 all_goals (conv=>whnf)
 all_goals (repeat' first | (refine⟨_,_,q1,?_⟩;conv=>whnf) | (intro _;conv=>whnf) | (refine split_of (fun _=>?_) (fun _=>?_)<;>conv=>whnf))
 all_goals (refine hK' _ _ ?_)
 all_goals (clear hK' K')
 all_goals (refine aOps_cut 6 fun K' hK'=>?_)
 all_goals (conv=>whnf)
 all_goals (repeat' first | (refine⟨_,_,q1,?_⟩;conv=>whnf) | (intro _;conv=>whnf) | (refine split_of (fun _=>?_) (fun _=>?_)<;>conv=>whnf))
 all_goals (refine hK' _ _ ?_)
 all_goals (clear hK' K')
 all_goals (refine aOps_cut 6 fun K' hK'=>?_)
 all_goals (conv=>whnf)
 all_goals (repeat' first | (refine⟨_,_,q1,?_⟩;conv=>whnf) | (intro _;conv=>whnf) | (refine split_of (fun _=>?_) (fun _=>?_)<;>conv=>whnf))
 all_goals (refine hK' _ _ ?_)
 all_goals (clear hK' K')
 all_goals (refine aOps_cut 6 fun K' hK'=>?_)
 all_goals (conv=>whnf)
 all_goals (repeat' first | (refine⟨_,_,q1,?_⟩;conv=>whnf) | (intro _;conv=>whnf) | (refine split_of (fun _=>?_) (fun _=>?_)<;>conv=>whnf))
 all_goals (refine hK' _ _ ?_)
 all_goals (clear hK' K')
 all_goals (refine aOps_cut 6 fun K' hK'=>?_)
 all_goals (conv=>whnf)
 all_goals (repeat' first | (refine⟨_,_,q1,?_⟩;conv=>whnf) | (intro _;conv=>whnf) | (refine split_of (fun _=>?_) (fun _=>?_)<;>conv=>whnf))
 all_goals (refine hK' _ _ ?_)
 all_goals (clear hK' K')
 all_goals (refine aOps_cut 6 fun K' hK'=>?_)
 all_goals (conv=>whnf)
 all_goals (repeat' first | (refine⟨_,_,q1,?_⟩;conv=>whnf) | (intro _;conv=>whnf) | (refine split_of (fun _=>?_) (fun _=>?_)<;>conv=>whnf))
 all_goals (refine hK' _ _ ?_)
 all_goals (clear hK' K')
 all_goals (refine aOps_cut 6 fun K' hK'=>?_)
 all_goals (conv=>whnf)
 all_goals (repeat' first | (refine⟨_,_,q1,?_⟩;conv=>whnf) | (intro _;conv=>whnf) | (refine split_of (fun _=>?_) (fun _=>?_)<;>conv=>whnf))
 all_goals (refine hK' _ _ ?_)
 all_goals (clear hK' K')
 all_goals (refine aOps_cut 6 fun K' hK'=>?_)
 all_goals (conv=>whnf)
 all_goals (repeat' first | (refine⟨_,_,q1,?_⟩;conv=>whnf) | (intro _;conv=>whnf) | (refine split_of (fun _=>?_) (fun _=>?_)<;>conv=>whnf))
 all_goals (refine hK' _ _ ?_)
 all_goals (clear hK' K')
 all_goals (refine aOps_cut 6 fun K' hK'=>?_)
 all_goals (conv=>whnf)
 all_goals (repeat' first | (refine⟨_,_,q1,?_⟩;conv=>whnf) | (intro _;conv=>whnf) | (refine split_of (fun _=>?_) (fun _=>?_)<;>conv=>whnf))
 all_goals (refine hK' _ _ ?_)
 all_goals (clear hK' K')
 all_goals (refine aOps_cut 6 fun K' hK'=>?_)
 all_goals (conv=>whnf)
 all_goals (repeat' first | (refine⟨_,_,q1,?_⟩;conv=>whnf) | (intro _;conv=>whnf) | (refine split_of (fun _=>?_) (fun _=>?_)<;>conv=>whnf))
 all_goals (refine hK' _ _ ?_)
 all_goals (clear hK' K')
 all_goals (conv=>whnf)
 all_goals (repeat' first | (refine⟨_,_,q1,?_⟩;conv=>whnf) | (intro _;conv=>whnf) | (refine split_of (fun _=>?_) (fun _=>?_)<;>conv=>whnf))
 skip
 all_goals (refine hK _ _ ?_)
 all_goals (conv=>whnf)
 all_goals (exact⟨_,_,⟨⟨_,rfl⟩,rfl⟩,hle,AV.leS_refl _ _ _⟩)
def SomeInt(S:St)(o:Out)(S':St):Prop:=(∃ e:Int,o=.ret (.int .i64 e))∧S'=S
theorem r4terms_t(l:List TermV)(hl:l.length+1≤9223372036854775807)(n:Int)(S:St):Triple P (C G) 100 [.sl .any 2 (rowsTm l),.int .i64 n] S (SomeInt S):=by
 have ll:=rowsTm_len l
 have hco:=fun n S=>r4Coef_t (G:=G) n S
 refine triple_of_awp (hT G) hm Tryz.func100 rfl (by decide +kernel) rfl (by decide +kernel) (by show 2≤_;decide +kernel) rfl ?_
 refine awp_seq2 fun K hK hQ=>?_
 conv=>whnf
 refine hK _ _ ?_;clear hK hQ K;refine awp_seq2 fun K hK hQ=>?_
 conv=>whnf
 refine⟨⟨Nat,fun i=>[(0,.sl .any 2 (rowsTm l)),(1,.int .i64 n),(5,.int .i64 (i:Int))],fun i S1=>S1=S∧i≤l.length,fun i=>l.length-i⟩,
  ⟨0,⟨⟨rfl,rfl⟩,rfl,rfl,trivial⟩,_,St.leW_refl _,rfl,Nat.zero_le _⟩,?_⟩
 rintro(i:Nat) S1 ⟨rfl,hi⟩;conv=>whnf
 intro _;rw[ll];conv=>whnf
 refine split_of (fun hlt=>?_) (fun hlt=>?_)
 ·have hlt:i<l.length:=by have:=of_decide_eq_true hlt;omega
  have ga:(rowsTm l)[(i:Int).toNat]? = some [.int .i64 l[i].1,.int .i64 l[i].2]:=by simp[rowsTm,hlt]
  have w1:IntKind.i64.wrap ((i:Int)+1)=((i+1:Nat):Int):=wrap_nat (by omega)
  generalize l[i]=t at *;conv=>whnf
  refine⟨_,⟨by omega,ga⟩,?_⟩
  conv=>whnf
  refine split_of (fun h=>?_) (fun h=>?_)
  ·skip
   conv=>whnf
   refine hQ _ _ _ (by simp) ?_
   conv=>whnf
   exact⟨_,_,⟨⟨_,rfl⟩,rfl⟩,St.le_refl _,AV.leS_refl _ _ _⟩
  conv=>whnf
  refine⟨_,⟨by omega,ga⟩,?_⟩
  conv=>whnf
  refine split_of (fun h=>?_) (fun h=>?_)
  ·skip
   conv=>whnf
   refine hQ _ _ _ (by simp) ?_
   conv=>whnf
   exact⟨_,_,⟨⟨_,rfl⟩,rfl⟩,St.le_refl _,AV.leS_refl _ _ _⟩
  conv=>whnf
  exact⟨i+1,⟨⟨rfl,rfl⟩,rfl,congrArg _ w1,trivial⟩,⟨_,St.leW_refl _,rfl,hlt⟩,by show l.length-(i+1)<l.length-i;omega⟩
 ·refine hK _ _ ?_;clear hK hQ K;refine awp_seq2 fun K hK hQ=>?_
  conv=>whnf
  refine⟨⟨Nat,fun i=>[(0,.sl .any 2 (rowsTm l)),(1,.int .i64 n),(6,.int .i64 (i:Int))],fun i S2=>S2=S1∧i≤l.length,fun i=>l.length-i⟩,
   ⟨0,⟨⟨rfl,rfl⟩,rfl,rfl,trivial⟩,_,St.leW_refl _,rfl,Nat.zero_le _⟩,?_⟩
  clear hlt hi i;rintro(i:Nat) S2 ⟨rfl,hi⟩;conv=>whnf
  intro _;rw[ll];conv=>whnf
  refine split_of (fun hlt=>?_) (fun hlt=>?_)
  ·have hlt:i<l.length:=by have:=of_decide_eq_true hlt;omega
   have ga:(rowsTm l)[(i:Int).toNat]? = some [.int .i64 l[i].1,.int .i64 l[i].2]:=by simp[rowsTm,hlt]
   have w1:IntKind.i64.wrap ((i:Int)+1)=((i+1:Nat):Int):=wrap_nat (by omega)
   generalize l[i]=t at *;conv=>whnf
   refine⟨_,⟨by omega,ga⟩,?_⟩
   conv=>whnf
   refine(hco _ _).mono ?_;rintro o T ⟨⟨b,rfl⟩,rfl⟩;conv=>whnf
   refine split_of (fun h=>?_) (fun h=>?_)
   ·skip
    conv=>whnf
    refine hQ _ _ _ (by simp) ?_
    conv=>whnf
    exact⟨_,_,⟨⟨_,rfl⟩,rfl⟩,St.le_refl _,AV.leS_refl _ _ _⟩
   conv=>whnf
   exact⟨i+1,⟨⟨rfl,rfl⟩,rfl,congrArg _ w1,trivial⟩,⟨_,St.leW_refl _,rfl,hlt⟩,by show l.length-(i+1)<l.length-i;omega⟩
  ·refine hK _ _ ?_;clear hK hQ K;conv=>whnf
   exact⟨_,_,⟨⟨_,rfl⟩,rfl⟩,St.le_refl _,AV.leS_refl _ _ _⟩
theorem r4places_t(c:ConV)(hl:c.xs.length+1≤9223372036854775807)(n:Int)(S:St):Triple P (C G) 138 [.ag (rowC c),.int .i64 n] S (YesNo S):=by
 have ll:=rowsI_len c.xs
 have hco:=fun x n S=>r4place_t (G:=G) x n S
 refine triple_of_awp (hT G) hm Tryz.func138 rfl (by decide +kernel) rfl (by decide +kernel) (by show 2≤_;decide +kernel) rfl ?_
 refine awp_seq2 fun K hK hQ=>?_
 conv=>whnf
 intro b2 hb2;conv=>whnf
 have q2:=St.upd_same S b2 (.obj 51 (rowC c))
 have hle:=St.le_upd' (St.le_refl S) hb2 (.obj 51 (rowC c))
 refine hK _ _ ?_;clear hK hQ K;change awp _ _ _ _ (S.upd b2 (.obj 51 (rowC c))) _;generalize S.upd b2 (.obj 51 (rowC c))=T at *;refine awp_seq2 fun K hK hQ=>?_
 conv=>whnf
 refine⟨_,_,q2,?_⟩;conv=>whnf
 refine(hco _ _ _).mono ?_;rintro o T' ⟨⟨b,rfl⟩,rfl⟩;have hrest:∀ (env:Env) (r:Bool),look 1 env=.int .i64 n→look 2 env=.ref b2 0→look 5 env=.bool r→K .normal env T':=fun env r e1 e2 e5=>by
  refine hK _ _ ?_;clear hK hQ K;refine awp_seq2 fun K hK hQ=>?_
  conv=>whnf
  refine⟨⟨Nat×Bool,fun z=>[(1,.int .i64 n),(2,.ref b2 0),(5,.bool z.2),(6,.int .i64 (z.1:Int))],fun z S1=>S1=T'∧z.1≤c.xs.length,fun z=>c.xs.length-z.1⟩,
   ⟨(0,r),⟨by show AV.le (look 1 env) _;rw[e1];rfl,by show AV.le (look 2 env) _;rw[e2];rfl,by show AV.le (look 5 env) _;rw[e5];rfl,rfl,trivial⟩,_,St.leW_refl _,rfl,Nat.zero_le _⟩,?_⟩
  rintro⟨i,r⟩ S1 ⟨rfl,hi⟩;dsimp only at hi;conv=>whnf
  refine⟨_,_,q2,?_⟩;conv=>whnf
  intro _;rw[ll];conv=>whnf
  refine split_of (fun hlt0=>?_) (fun hlt0=>?_)
  ·have hlt:i<c.xs.length:=by have:=of_decide_eq_true hlt0;dsimp only at this;omega
   clear hlt0;have ga:(rowsI c.xs)[(i:Int).toNat]? = some [.int .i64 c.xs[i]]:=by simp[rowsI,hlt]
   have w1:IntKind.i64.wrap ((i:Int)+1)=((i+1:Nat):Int):=wrap_nat (by omega)
   generalize c.xs[i]=x at *
   cases r with
   | true=>
     conv=>whnf
     refine⟨_,_,q2,?_⟩;conv=>whnf
     refine⟨_,⟨by omega,ga⟩,?_⟩
     conv=>whnf
     refine(hco _ _ _).mono ?_;rintro o T ⟨⟨b',rfl⟩,rfl⟩;conv=>whnf
     exact⟨(i+1,b'),⟨rfl,rfl,rfl,congrArg _ w1,trivial⟩,⟨_,St.leW_refl _,rfl,by show i+1≤_;omega⟩,by show c.xs.length-(i+1)<c.xs.length-i;omega⟩
   | false=>
     conv=>whnf
     exact⟨(i+1,false),⟨rfl,rfl,rfl,congrArg _ w1,trivial⟩,⟨_,St.leW_refl _,rfl,by show i+1≤_;omega⟩,by show c.xs.length-(i+1)<c.xs.length-i;omega⟩
  ·refine hK _ _ ?_;clear hK hQ K;conv=>whnf
   exact⟨_,_,⟨⟨_,rfl⟩,rfl⟩,hle,AV.leS_refl _ _ _⟩
 cases b with
 | true=>
   conv=>whnf
   refine⟨_,_,q2,?_⟩;conv=>whnf
   refine(hco _ _ _).mono ?_;rintro o T'' ⟨⟨b',rfl⟩,rfl⟩;conv=>whnf
   exact hrest _ b' rfl rfl rfl
 | false=>
   conv=>whnf
   exact hrest _ false rfl rfl rfl
theorem r4rows_t(c:ConV)(hl:c.rows.length+1≤9223372036854775807)(S:St):Triple P (C G) 137 [.ag (rowC c)] S (YesNo S):=by
 have ll:=rowsLL_len c.rows
 have lx:=rowsI_len c.xs
 have hco:=fun n S=>r4many_t (G:=G) n S
 refine triple_of_awp (hT G) hm Tryz.func137 rfl (by decide +kernel) rfl (by decide +kernel) (by show 1≤_;decide +kernel) rfl ?_
 refine awp_seq2 fun K hK hQ=>?_
 conv=>whnf
 intro b1 hb1;conv=>whnf
 have q1:=St.upd_same S b1 (.obj 51 (rowC c))
 have hle:=St.le_upd' (St.le_refl S) hb1 (.obj 51 (rowC c))
 refine hK _ _ ?_;clear hK hQ K;change awp _ _ _ _ (S.upd b1 (.obj 51 (rowC c))) _;generalize S.upd b1 (.obj 51 (rowC c))=T at *;refine awp_seq2 fun K hK hQ=>?_
 conv=>whnf
 refine⟨_,_,q1,?_⟩;conv=>whnf
 intro _;conv=>whnf
 have hout:∀ env,K .ret ((2,.bool false)::env) T:=fun env=>by
  refine hQ _ _ _ (by simp) ?_
  conv=>whnf
  exact⟨_,_,⟨⟨_,rfl⟩,rfl⟩,hle,AV.leS_refl _ _ _⟩
 refine split_of (fun h=>?_) (fun h=>?_)
 ·skip
  conv=>whnf
  exact hout _
 conv=>whnf
 refine⟨_,_,q1,?_⟩;conv=>whnf
 intro _;rw[ll];conv=>whnf
 refine(hco _ _).mono ?_;rintro o T' ⟨⟨b,rfl⟩,rfl⟩
 cases b with
 | true=>
   conv=>whnf
   exact hout _
 | false=>
   conv=>whnf
   refine hK _ _ ?_;clear hK hQ K hout;refine awp_seq2 fun K hK hQ=>?_
   conv=>whnf
   refine⟨⟨Nat,fun i=>[(1,.ref b1 0),(2,.bool false),(3,.int .i64 (i:Int))],fun i S1=>S1=T'∧i≤c.rows.length,fun i=>c.rows.length-i⟩,
    ⟨0,⟨rfl,rfl,rfl,trivial⟩,_,St.leW_refl _,rfl,Nat.zero_le _⟩,?_⟩
   rintro(i:Nat) S1 ⟨rfl,hi⟩;conv=>whnf
   refine⟨_,_,q1,?_⟩;conv=>whnf
   intro _;rw[ll];conv=>whnf
   refine split_of (fun hlt=>?_) (fun hlt=>?_)
   ·have hlt:i<c.rows.length:=by have:=of_decide_eq_true hlt;omega
    have ga:(rowsLL c.rows)[(i:Int).toNat]? = some [.sl .any 1 (rowsI c.rows[i])]:=by simp[rowsLL,hlt]
    have w1:IntKind.i64.wrap ((i:Int)+1)=((i+1:Nat):Int):=wrap_nat (by omega)
    generalize c.rows[i]=r at *;refine⟨[],(.free 0 (.free 1 (.free 2 (.free 3 (.free 4 (.free 5 (.free 6 (.free 7 (.free 8 (.free 9 .done)))))))))),_,by decide +kernel,?_,fun _ _ h=>⟨_,.inl rfl,h⟩⟩
    conv=>whnf
    refine⟨_,_,q1,?_⟩;conv=>whnf
    refine⟨_,⟨by omega,ga⟩,?_⟩
    conv=>whnf
    refine⟨_,_,q1,?_⟩;conv=>whnf
    refine split_of (fun h=>?_) (fun h=>?_)
    ·skip
     conv=>whnf
     refine hQ _ _ _ (by simp) ?_
     conv=>whnf
     exact⟨_,_,⟨⟨_,rfl⟩,rfl⟩,hle,AV.leS_refl _ _ _⟩
    ·skip
     conv=>whnf
     exact⟨i+1,⟨rfl,rfl,congrArg _ w1,trivial⟩,⟨_,St.leW_refl _,rfl,hlt⟩,by show c.rows.length-(i+1)<c.rows.length-i;omega⟩
   ·refine hK _ _ ?_;clear hK hQ K;conv=>whnf
    exact⟨_,_,⟨⟨_,rfl⟩,rfl⟩,hle,AV.leS_refl _ _ _⟩
end Go.Proofs.YtjpboanohpaibaaGreatDoor.Aw

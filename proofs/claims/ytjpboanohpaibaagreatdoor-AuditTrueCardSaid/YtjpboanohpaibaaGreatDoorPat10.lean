/- The package model's small functions, walked: bounds, sums, lists of numbers; slices.ContainsFunc at the program's lists. -/
import Derived.Test.YtjpboanohpaibaaGreatDoorPat9
import Derived.Test.YtjpboanohpaibaaGreatDoorPat7
import Derived.Laws.RangeString
import Derived.Laws.RangeAny
set_option linter.all false
set_option maxRecDepth 100000
namespace Go.Proofs.YtjpboanohpaibaaGreatDoor.Aw
open Go Go.RowKit
variable {G:Nat→Option (List AV)}
theorem awp_blk1{C:Cx}{id:Nat}{c:Go.Code}{env:Env}{S:St}{Q:AExit→Env→St→Prop}(h:awp P C c env S fun e env' S'=>match e with
 | .exit id'=>(bif Nat.beq id' id then Q .normal env' S' else Q (.exit id') env' S')
 | e=>Q e env' S'):awp P C (.block id c) env S Q:=h
def withinV(n most:Int):Bool:=decide (-most≤n) && decide (n≤most)
def countsV(there:Bool)(n:Int):Bool:=!there || (decide (1≤n) && decide (n≤64))
def isV(op n k:Int):Bool:=if op=1 then decide (n≤k) else if op=3 then decide (k≤n) else decide (n=k)
theorem within_ok(n most:Int)(h0:0≤most)(h1:most≤1000000000)(S:St):Triple P (C G) 70 [.int .i64 n,.int .i64 most] S fun o S'=>o=.ret (.bool (withinV n most))∧S'=S:=by
 have w:IntKind.i64.wrap (0-most)=-most:=by rw[show 0-most=-most by omega];exact wrap_i64 (by omega) (by omega)
 unfold withinV;refine triple_of_awp (hT G) hm Tryz.func70 rfl (by decide +kernel) rfl (by decide +kernel) (by show 2≤_;decide +kernel) rfl ?_
 conv=>whnf
 rw[w]
 cases h:decide (n ≥ -most) with
 | true=>
   conv=>whnf
   refine⟨_,_,⟨congrArg _ (congrArg _ ?_),rfl⟩,St.le_refl _,AV.leS_refl _ _ _⟩;rfl
 | false=>
   conv=>whnf
   refine⟨_,_,⟨congrArg _ (congrArg _ ?_),rfl⟩,St.le_refl _,AV.leS_refl _ _ _⟩;rfl
theorem counts_ok(there:Bool)(n:Int)(S:St):Triple P (C G) 67 [.bool there,.int .i64 n] S fun o S'=>o=.ret (.bool (countsV there n))∧S'=S:=by
 unfold countsV;refine triple_of_awp (hT G) hm Tryz.func67 rfl (by decide +kernel) rfl (by decide +kernel) (by show 2≤_;decide +kernel) rfl ?_
 cases there with
 | false=>
   conv=>whnf
   exact⟨_,_,⟨rfl,rfl⟩,St.le_refl _,AV.leS_refl _ _ _⟩
 | true=>
   conv=>whnf
   cases h:decide (n ≥ 1) with
   | true=>
     conv=>whnf
     refine⟨_,_,⟨congrArg _ (congrArg _ ?_),rfl⟩,St.le_refl _,AV.leS_refl _ _ _⟩;rfl
   | false=>
     conv=>whnf
     refine⟨_,_,⟨congrArg _ (congrArg _ ?_),rfl⟩,St.le_refl _,AV.leS_refl _ _ _⟩;rfl
def idxV{α:Type}(p:α→Bool)(l:List α):Int:=match l.findIdx? p with | some i=>(i:Int) | none=>-1
theorem idxV_any{α:Type}(p:α→Bool)(l:List α):decide (idxV p l ≥ 0)=l.any p:=by
 unfold idxV
 cases h:l.findIdx? p with
 | none=>
   rw[List.findIdx?_eq_none_iff] at h;rw[show l.any p=false by rw[List.any_eq_false];intro x hx;rw[h x hx];simp]
   rfl
 | some i=>
   rw[List.findIdx?_eq_some_iff_getElem] at h;obtain⟨hi,h1,_⟩:=h;rw[show l.any p=true by rw[List.any_eq_true];exact⟨l[i],List.getElem_mem hi,h1⟩]
   exact decide_eq_true (by show(0:Int)≤(i:Int);omega)
theorem idxV_at{α:Type}{p:α→Bool}{l:List α}{i:Nat}(hi:i<l.length)(h1:p l[i]=true)(h0:∀ x∈l.take i,p x=false):idxV p l=(i:Int):=by
 unfold idxV;have:l.findIdx? p=some i:=by
  rw[List.findIdx?_eq_some_iff_getElem];refine⟨hi,h1,fun j hj=>?_⟩
  rw[h0 _ (List.mem_take_iff_getElem.2 ⟨j,by omega,rfl⟩)];simp
 rw[this]
theorem idxV_none{α:Type}{p:α→Bool}{l:List α}(h0:∀ x∈l,p x=false):idxV p l=-1:=by
 unfold idxV;have:l.findIdx? p=none:=by rw[List.findIdx?_eq_none_iff];exact h0
 rw[this]
theorem IndexI_ok{S:St}{g:FuncId}{caps:List AV}{xs:List Int}(hmax:xs.length+1≤9223372036854775807){p:Int→Bool}(hf:∀ x∈xs,Triple P (C G) g (.int .i64 x::caps) S fun o S'=>o=.ret (.bool (p x))∧S'=S) :
 Triple P (C G) 105 [.sl .any 1 (rowsI xs),.fn (.func g) [] caps] S fun o S'=>o=.ret (.int .i64 (idxV p xs))∧S'=S:=by
 -- slices.IndexFunc[[]int,int] function,1 k,rowsI rows,(fun x:Int=>[AV.int .i64 x]) a row's unfolding
 refine triple_of_awp (hT G) hm Tryz.func105 rfl (by decide +kernel) rfl (by decide +kernel) (by show 2≤_;decide +kernel) rfl ?_
 refine awp_seq2 fun K hK hQ=>?_
 conv=>whnf
 refine hK _ _ ?_;clear hK hQ K;refine awp_seq2 fun K hK hQ=>?_
 conv=>whnf
 intro _;conv=>whnf
 refine⟨⟨Nat,fun i=>[(0,.sl .any 1 (rowsI xs)),(1,.fn (.func g) [] caps),(7,.int .i64 (xs.length:Int)),(8,.int .i64 (i:Int))],
  fun i S1=>S1=S∧i≤xs.length∧∀ x∈xs.take i,p x=false,fun i=>xs.length-i⟩,
  ⟨0,⟨⟨rfl,rfl⟩,rfl,congrArg (fun z:Nat=>AV.int .i64 (z:Int)) (by simp[rowsI]),rfl,trivial⟩,_,St.leW_refl _,rfl,Nat.zero_le _,by simp⟩,?_⟩
 rintro(i:Nat) S1 ⟨rfl,hi,hno⟩;conv=>whnf
 refine split_of (fun hlt=>?_) (fun hlt=>?_)
 ·have hlt:i<xs.length:=by have:=of_decide_eq_true hlt;omega
  have hmx:=hmax
  have w1:IntKind.i64.wrap ((i:Int)+1)=((i+1:Nat):Int):=wrap_nat (by omega)
  have ga:(rowsI xs)[(i:Int).toNat]? = some ((fun x:Int=>[AV.int .i64 x]) xs[i]):=by simp[rowsI,hlt]
  have hf1:=hf xs[i] (List.getElem_mem hlt)
  have hp1:∀ q,p xs[i]=q→(q=true→idxV p xs=(i:Int))∧(q=false→∀ x∈xs.take (i+1),p x=false):=fun q hq=>
   ⟨fun h=>idxV_at hlt (by rw[hq,h]) hno,fun h x hx=>by
    rw[List.take_add_one,List.mem_append] at hx
    rcases hx with hx | hx
    ·exact hno x hx
    ·simp only[List.getElem?_eq_getElem hlt,Option.toList_some,List.mem_singleton] at hx;rw[hx,hq,h]⟩
  generalize xs[i]=x at *
  skip
  conv=>whnf
  refine⟨_,⟨by omega,ga⟩,?_⟩
  conv=>whnf
  rw[forceL_eq];refine hf1.mono ?_;rintro o T ⟨rfl,rfl⟩;generalize hq:p _=q at *;obtain⟨hp2,hp3⟩:=hp1 q rfl
  cases q with
  | true=>
    conv=>whnf
    refine hQ _ _ _ (by simp) ?_
    clear hK hQ K;conv=>whnf
    exact⟨_,_,⟨congrArg (fun z=>Out.ret (AV.int .i64 z)) (hp2 rfl).symm,rfl⟩,St.le_refl _,AV.leS_refl _ _ _⟩
  | false=>
    conv=>whnf
    exact⟨i+1,⟨⟨rfl,rfl⟩,rfl,rfl,congrArg _ w1,trivial⟩,⟨_,St.leW_refl _,rfl,hlt,hp3 rfl⟩,by show xs.length-(i+1)<xs.length-i;omega⟩
 ·have hlt:i=xs.length:=by have:=of_decide_eq_false hlt;omega
  subst hlt;rw[List.take_length] at hno;conv=>whnf
  refine hK _ _ ?_;clear hK hQ K;conv=>whnf
  exact⟨_,_,⟨congrArg (fun z=>Out.ret (AV.int .i64 z)) (idxV_none hno).symm,rfl⟩,St.le_refl _,AV.leS_refl _ _ _⟩
theorem ContainsI_ok{S:St}{g:FuncId}{caps:List AV}{xs:List Int}(hmax:xs.length+1≤9223372036854775807){p:Int→Bool}(hf:∀ x∈xs,Triple P (C G) g (.int .i64 x::caps) S fun o S'=>o=.ret (.bool (p x))∧S'=S) :
 Triple P (C G) 69 [.sl .any 1 (rowsI xs),.fn (.func g) [] caps] S fun o S'=>o=.ret (.bool (xs.any p))∧S'=S:=by
 -- slices.ContainsFunc[[]int,int] function,IndexI_ok (G:=G) hmax hf the index's contract
 have hi:=IndexI_ok (G:=G) hmax hf
 rw[← idxV_any];refine triple_of_awp (hT G) hm Tryz.func69 rfl (by decide +kernel) rfl (by decide +kernel) (by show 2≤_;decide +kernel) rfl ?_
 conv=>whnf
 refine hi.mono ?_;rintro o T ⟨rfl,rfl⟩;conv=>whnf
 exact⟨_,_,⟨rfl,rfl⟩,St.le_refl _,AV.leS_refl _ _ _⟩
theorem IndexL_ok{S:St}{g:FuncId}{caps:List AV}{xs:List (List Int)}(hmax:xs.length+1≤9223372036854775807){p:(List Int)→Bool}(hf:∀ x∈xs,Triple P (C G) g (.sl .any 1 (rowsI x)::caps) S fun o S'=>o=.ret (.bool (p x))∧S'=S) :
 Triple P (C G) 106 [.sl .any 1 (rowsLL xs),.fn (.func g) [] caps] S fun o S'=>o=.ret (.int .i64 (idxV p xs))∧S'=S:=by
 -- slices.IndexFunc[[][]int,[]int] function,1 k,rowsLL rows,(fun x:List Int=>[AV.sl .any 1 (rowsI x)]) a row's unfolding
 refine triple_of_awp (hT G) hm Tryz.func106 rfl (by decide +kernel) rfl (by decide +kernel) (by show 2≤_;decide +kernel) rfl ?_
 refine awp_seq2 fun K hK hQ=>?_
 conv=>whnf
 refine hK _ _ ?_;clear hK hQ K;refine awp_seq2 fun K hK hQ=>?_
 conv=>whnf
 intro _;conv=>whnf
 refine⟨⟨Nat,fun i=>[(0,.sl .any 1 (rowsLL xs)),(1,.fn (.func g) [] caps),(7,.int .i64 (xs.length:Int)),(8,.int .i64 (i:Int))],
  fun i S1=>S1=S∧i≤xs.length∧∀ x∈xs.take i,p x=false,fun i=>xs.length-i⟩,
  ⟨0,⟨⟨rfl,rfl⟩,rfl,congrArg (fun z:Nat=>AV.int .i64 (z:Int)) (by simp[rowsLL]),rfl,trivial⟩,_,St.leW_refl _,rfl,Nat.zero_le _,by simp⟩,?_⟩
 rintro(i:Nat) S1 ⟨rfl,hi,hno⟩;conv=>whnf
 refine split_of (fun hlt=>?_) (fun hlt=>?_)
 ·have hlt:i<xs.length:=by have:=of_decide_eq_true hlt;omega
  have hmx:=hmax
  have w1:IntKind.i64.wrap ((i:Int)+1)=((i+1:Nat):Int):=wrap_nat (by omega)
  have ga:(rowsLL xs)[(i:Int).toNat]? = some ((fun x:List Int=>[AV.sl .any 1 (rowsI x)]) xs[i]):=by simp[rowsLL,hlt]
  have hf1:=hf xs[i] (List.getElem_mem hlt)
  have hp1:∀ q,p xs[i]=q→(q=true→idxV p xs=(i:Int))∧(q=false→∀ x∈xs.take (i+1),p x=false):=fun q hq=>
   ⟨fun h=>idxV_at hlt (by rw[hq,h]) hno,fun h x hx=>by
    rw[List.take_add_one,List.mem_append] at hx
    rcases hx with hx | hx
    ·exact hno x hx
    ·simp only[List.getElem?_eq_getElem hlt,Option.toList_some,List.mem_singleton] at hx;rw[hx,hq,h]⟩
  generalize xs[i]=x at *
  skip
  conv=>whnf
  refine⟨_,⟨by omega,ga⟩,?_⟩
  conv=>whnf
  rw[forceL_eq];refine hf1.mono ?_;rintro o T ⟨rfl,rfl⟩;generalize hq:p _=q at *;obtain⟨hp2,hp3⟩:=hp1 q rfl
  cases q with
  | true=>
    conv=>whnf
    refine hQ _ _ _ (by simp) ?_
    clear hK hQ K;conv=>whnf
    exact⟨_,_,⟨congrArg (fun z=>Out.ret (AV.int .i64 z)) (hp2 rfl).symm,rfl⟩,St.le_refl _,AV.leS_refl _ _ _⟩
  | false=>
    conv=>whnf
    exact⟨i+1,⟨⟨rfl,rfl⟩,rfl,rfl,congrArg _ w1,trivial⟩,⟨_,St.leW_refl _,rfl,hlt,hp3 rfl⟩,by show xs.length-(i+1)<xs.length-i;omega⟩
 ·have hlt:i=xs.length:=by have:=of_decide_eq_false hlt;omega
  subst hlt;rw[List.take_length] at hno;conv=>whnf
  refine hK _ _ ?_;clear hK hQ K;conv=>whnf
  exact⟨_,_,⟨congrArg (fun z=>Out.ret (AV.int .i64 z)) (idxV_none hno).symm,rfl⟩,St.le_refl _,AV.leS_refl _ _ _⟩
theorem ContainsL_ok{S:St}{g:FuncId}{caps:List AV}{xs:List (List Int)}(hmax:xs.length+1≤9223372036854775807){p:(List Int)→Bool}(hf:∀ x∈xs,Triple P (C G) g (.sl .any 1 (rowsI x)::caps) S fun o S'=>o=.ret (.bool (p x))∧S'=S) :
 Triple P (C G) 71 [.sl .any 1 (rowsLL xs),.fn (.func g) [] caps] S fun o S'=>o=.ret (.bool (xs.any p))∧S'=S:=by
 -- slices.ContainsFunc[[][]int,[]int] function,IndexL_ok (G:=G) hmax hf the index's contract
 have hi:=IndexL_ok (G:=G) hmax hf
 rw[← idxV_any];refine triple_of_awp (hT G) hm Tryz.func71 rfl (by decide +kernel) rfl (by decide +kernel) (by show 2≤_;decide +kernel) rfl ?_
 conv=>whnf
 refine hi.mono ?_;rintro o T ⟨rfl,rfl⟩;conv=>whnf
 exact⟨_,_,⟨rfl,rfl⟩,St.le_refl _,AV.leS_refl _ _ _⟩
theorem IndexC_ok{S:St}{g:FuncId}{caps:List AV}{xs:List ConV}(hmax:xs.length+1≤9223372036854775807){p:ConV→Bool}(hf:∀ x∈xs,Triple P (C G) g (.ag (rowC x)::caps) S fun o S'=>o=.ret (.bool (p x))∧S'=S) :
 Triple P (C G) 52 [.sl .any 10 (rowsC xs),.fn (.func g) [] caps] S fun o S'=>o=.ret (.int .i64 (idxV p xs))∧S'=S:=by
 -- slices.IndexFunc[[]hallmark/api.Con,hallmark/api.Con] function,10 k,rowsC rows,rowC a row's unfolding
 refine triple_of_awp (hT G) hm Tryz.func52 rfl (by decide +kernel) rfl (by decide +kernel) (by show 2≤_;decide +kernel) rfl ?_
 refine awp_seq2 fun K hK hQ=>?_
 conv=>whnf
 refine hK _ _ ?_;clear hK hQ K;refine awp_seq2 fun K hK hQ=>?_
 conv=>whnf
 intro _;conv=>whnf
 refine⟨⟨Nat,fun i=>[(0,.sl .any 10 (rowsC xs)),(1,.fn (.func g) [] caps),(7,.int .i64 (xs.length:Int)),(8,.int .i64 (i:Int))],
  fun i S1=>S1=S∧i≤xs.length∧∀ x∈xs.take i,p x=false,fun i=>xs.length-i⟩,
  ⟨0,⟨⟨rfl,rfl⟩,rfl,congrArg (fun z:Nat=>AV.int .i64 (z:Int)) (by simp[rowsC]),rfl,trivial⟩,_,St.leW_refl _,rfl,Nat.zero_le _,by simp⟩,?_⟩
 rintro(i:Nat) S1 ⟨rfl,hi,hno⟩;conv=>whnf
 refine split_of (fun hlt=>?_) (fun hlt=>?_)
 ·have hlt:i<xs.length:=by have:=of_decide_eq_true hlt;omega
  have hmx:=hmax
  have w1:IntKind.i64.wrap ((i:Int)+1)=((i+1:Nat):Int):=wrap_nat (by omega)
  have ga:(rowsC xs)[(i:Int).toNat]? = some (rowC xs[i]):=by simp[rowsC,hlt]
  have hf1:=hf xs[i] (List.getElem_mem hlt)
  have hp1:∀ q,p xs[i]=q→(q=true→idxV p xs=(i:Int))∧(q=false→∀ x∈xs.take (i+1),p x=false):=fun q hq=>
   ⟨fun h=>idxV_at hlt (by rw[hq,h]) hno,fun h x hx=>by
    rw[List.take_add_one,List.mem_append] at hx
    rcases hx with hx | hx
    ·exact hno x hx
    ·simp only[List.getElem?_eq_getElem hlt,Option.toList_some,List.mem_singleton] at hx;rw[hx,hq,h]⟩
  generalize xs[i]=x at *;unfold rowC at ga hf1;conv=>whnf
  refine⟨_,⟨by omega,ga⟩,?_⟩
  conv=>whnf
  rw[forceL_eq];refine hf1.mono ?_;rintro o T ⟨rfl,rfl⟩;generalize hq:p _=q at *;obtain⟨hp2,hp3⟩:=hp1 q rfl
  cases q with
  | true=>
    conv=>whnf
    refine hQ _ _ _ (by simp) ?_
    clear hK hQ K;conv=>whnf
    exact⟨_,_,⟨congrArg (fun z=>Out.ret (AV.int .i64 z)) (hp2 rfl).symm,rfl⟩,St.le_refl _,AV.leS_refl _ _ _⟩
  | false=>
    conv=>whnf
    exact⟨i+1,⟨⟨rfl,rfl⟩,rfl,rfl,congrArg _ w1,trivial⟩,⟨_,St.leW_refl _,rfl,hlt,hp3 rfl⟩,by show xs.length-(i+1)<xs.length-i;omega⟩
 ·have hlt:i=xs.length:=by have:=of_decide_eq_false hlt;omega
  subst hlt;rw[List.take_length] at hno;conv=>whnf
  refine hK _ _ ?_;clear hK hQ K;conv=>whnf
  exact⟨_,_,⟨congrArg (fun z=>Out.ret (AV.int .i64 z)) (idxV_none hno).symm,rfl⟩,St.le_refl _,AV.leS_refl _ _ _⟩
theorem ContainsC_ok{S:St}{g:FuncId}{caps:List AV}{xs:List ConV}(hmax:xs.length+1≤9223372036854775807){p:ConV→Bool}(hf:∀ x∈xs,Triple P (C G) g (.ag (rowC x)::caps) S fun o S'=>o=.ret (.bool (p x))∧S'=S) :
 Triple P (C G) 32 [.sl .any 10 (rowsC xs),.fn (.func g) [] caps] S fun o S'=>o=.ret (.bool (xs.any p))∧S'=S:=by
 -- slices.ContainsFunc[[]hallmark/api.Con,hallmark/api.Con] function,IndexC_ok (G:=G) hmax hf the index's contract
 have hi:=IndexC_ok (G:=G) hmax hf
 rw[← idxV_any];refine triple_of_awp (hT G) hm Tryz.func32 rfl (by decide +kernel) rfl (by decide +kernel) (by show 2≤_;decide +kernel) rfl ?_
 conv=>whnf
 refine hi.mono ?_;rintro o T ⟨rfl,rfl⟩;conv=>whnf
 exact⟨_,_,⟨rfl,rfl⟩,St.le_refl _,AV.leS_refl _ _ _⟩
theorem IndexV_ok{S:St}{g:FuncId}{caps:List AV}{xs:List VarV}(hmax:xs.length+1≤9223372036854775807){p:VarV→Bool}(hf:∀ x∈xs,Triple P (C G) g (.ag (rowV x)::caps) S fun o S'=>o=.ret (.bool (p x))∧S'=S) :
 Triple P (C G) 141 [.sl .any 3 (rowsV xs),.fn (.func g) [] caps] S fun o S'=>o=.ret (.int .i64 (idxV p xs))∧S'=S:=by
 -- slices.IndexFunc[[]hallmark/api.Var,hallmark/api.Var] function,3 k,rowsV rows,rowV a row's unfolding
 refine triple_of_awp (hT G) hm Tryz.func141 rfl (by decide +kernel) rfl (by decide +kernel) (by show 2≤_;decide +kernel) rfl ?_
 refine awp_seq2 fun K hK hQ=>?_
 conv=>whnf
 refine hK _ _ ?_;clear hK hQ K;refine awp_seq2 fun K hK hQ=>?_
 conv=>whnf
 intro _;conv=>whnf
 refine⟨⟨Nat,fun i=>[(0,.sl .any 3 (rowsV xs)),(1,.fn (.func g) [] caps),(7,.int .i64 (xs.length:Int)),(8,.int .i64 (i:Int))],
  fun i S1=>S1=S∧i≤xs.length∧∀ x∈xs.take i,p x=false,fun i=>xs.length-i⟩,
  ⟨0,⟨⟨rfl,rfl⟩,rfl,congrArg (fun z:Nat=>AV.int .i64 (z:Int)) (by simp[rowsV]),rfl,trivial⟩,_,St.leW_refl _,rfl,Nat.zero_le _,by simp⟩,?_⟩
 rintro(i:Nat) S1 ⟨rfl,hi,hno⟩;conv=>whnf
 refine split_of (fun hlt=>?_) (fun hlt=>?_)
 ·have hlt:i<xs.length:=by have:=of_decide_eq_true hlt;omega
  have hmx:=hmax
  have w1:IntKind.i64.wrap ((i:Int)+1)=((i+1:Nat):Int):=wrap_nat (by omega)
  have ga:(rowsV xs)[(i:Int).toNat]? = some (rowV xs[i]):=by simp[rowsV,hlt]
  have hf1:=hf xs[i] (List.getElem_mem hlt)
  have hp1:∀ q,p xs[i]=q→(q=true→idxV p xs=(i:Int))∧(q=false→∀ x∈xs.take (i+1),p x=false):=fun q hq=>
   ⟨fun h=>idxV_at hlt (by rw[hq,h]) hno,fun h x hx=>by
    rw[List.take_add_one,List.mem_append] at hx
    rcases hx with hx | hx
    ·exact hno x hx
    ·simp only[List.getElem?_eq_getElem hlt,Option.toList_some,List.mem_singleton] at hx;rw[hx,hq,h]⟩
  generalize xs[i]=x at *;unfold rowV at ga hf1;conv=>whnf
  refine⟨_,⟨by omega,ga⟩,?_⟩
  conv=>whnf
  rw[forceL_eq];refine hf1.mono ?_;rintro o T ⟨rfl,rfl⟩;generalize hq:p _=q at *;obtain⟨hp2,hp3⟩:=hp1 q rfl
  cases q with
  | true=>
    conv=>whnf
    refine hQ _ _ _ (by simp) ?_
    clear hK hQ K;conv=>whnf
    exact⟨_,_,⟨congrArg (fun z=>Out.ret (AV.int .i64 z)) (hp2 rfl).symm,rfl⟩,St.le_refl _,AV.leS_refl _ _ _⟩
  | false=>
    conv=>whnf
    exact⟨i+1,⟨⟨rfl,rfl⟩,rfl,rfl,congrArg _ w1,trivial⟩,⟨_,St.leW_refl _,rfl,hlt,hp3 rfl⟩,by show xs.length-(i+1)<xs.length-i;omega⟩
 ·have hlt:i=xs.length:=by have:=of_decide_eq_false hlt;omega
  subst hlt;rw[List.take_length] at hno;conv=>whnf
  refine hK _ _ ?_;clear hK hQ K;conv=>whnf
  exact⟨_,_,⟨congrArg (fun z=>Out.ret (AV.int .i64 z)) (idxV_none hno).symm,rfl⟩,St.le_refl _,AV.leS_refl _ _ _⟩
theorem ContainsV_ok{S:St}{g:FuncId}{caps:List AV}{xs:List VarV}(hmax:xs.length+1≤9223372036854775807){p:VarV→Bool}(hf:∀ x∈xs,Triple P (C G) g (.ag (rowV x)::caps) S fun o S'=>o=.ret (.bool (p x))∧S'=S) :
 Triple P (C G) 102 [.sl .any 3 (rowsV xs),.fn (.func g) [] caps] S fun o S'=>o=.ret (.bool (xs.any p))∧S'=S:=by
 -- slices.ContainsFunc[[]hallmark/api.Var,hallmark/api.Var] function,IndexV_ok (G:=G) hmax hf the index's contract
 have hi:=IndexV_ok (G:=G) hmax hf
 rw[← idxV_any];refine triple_of_awp (hT G) hm Tryz.func102 rfl (by decide +kernel) rfl (by decide +kernel) (by show 2≤_;decide +kernel) rfl ?_
 conv=>whnf
 refine hi.mono ?_;rintro o T ⟨rfl,rfl⟩;conv=>whnf
 exact⟨_,_,⟨rfl,rfl⟩,St.le_refl _,AV.leS_refl _ _ _⟩
def badRune(r pos:Nat):Bool:=!(((decide ((r:Int) ≥ 97) && decide ((r:Int)≤122)) || (decide ((r:Int) ≥ 65) && decide ((r:Int)≤90))) || ((r:Int) == 95)) && (((pos:Int) == 0) || decide ((r:Int)<48) || decide ((r:Int) > 57))
def nameFrom(s:ByteArray):Nat→Nat→Bool
 | 0,_=>true
 | f+1,pos=>if pos<s.size then (if badRune (Utf8.decode s pos).1 pos then false else nameFrom s f (pos+(Utf8.decode s pos).2)) else true
theorem nameFrom_end(s:ByteArray)(f pos:Nat)(h:s.size≤pos):nameFrom s f pos=true:=by
 cases f with
 | zero=>rfl
 | succ f=>unfold nameFrom;rw[if_neg (by omega)]
def nameV(s:ByteArray):Bool:=nameFrom s s.size 0 && (decide ((s.size:Int) ≥ 1) && decide ((s.size:Int)≤16))
theorem width_ge(s:ByteArray)(pos:Nat)(h:pos<s.size):1≤(Utf8.decode s pos).2:=by
 by_cases ha:(s[pos]'h).toNat<128
 ·rw[decode_ascii s pos h ha];exact Nat.le_refl _
 ·exact(decode_high s pos h (by omega)).2
set_option maxHeartbeats 4000000 in
theorem isName_ok(s:ByteArray)(S:St):Triple P (C G) 101 [.str s] S fun o S'=>o=.ret (.bool (nameV s))∧S'=S:=by
 refine triple_of_awp (hT G) hm Tryz.func101 rfl (by decide +kernel) rfl (by decide +kernel) (by show 1≤_;decide +kernel) rfl ?_
 refine awp_seq2 fun K hK hQ=>?_
 conv=>whnf
 refine hK _ _ ?_;clear hK hQ K;refine awp_seq2 fun K hK hQ=>?_
 conv=>whnf
 intro bi hbi;conv=>whnf
 refine⟨⟨Nat×Nat,fun z=>[(0,.str s),(7,.ref bi 0)],
  fun z S1=>S1 bi=some (.siter s z.1)∧St.le S S1∧nameFrom s s.size 0=nameFrom s z.2 z.1∧s.size≤z.1+z.2,fun z=>s.size-z.1⟩,
  ⟨(0,s.size),⟨rfl,rfl,trivial⟩,_,St.leW_refl _,St.upd_same _ _ _,St.le_upd' (St.le_refl _) hbi _,rfl,by simp⟩,?_⟩
 rintro⟨pos,f⟩ S1 ⟨h1,h2,h3,h4⟩;dsimp only at h1 h3 h4;conv=>whnf
 refine⟨_,_,h1,?_⟩;refine split_of (fun hlt=>?_) (fun hlt=>?_)
 ·have hlt:pos<s.size:=of_decide_eq_true hlt
  have hw:=width_ge s pos hlt
  obtain⟨f,rfl⟩:∃ f',f=f'+1:=⟨f-1,by omega⟩
  have h5:nameFrom s (f+1) pos=if badRune (Utf8.decode s pos).1 pos then false else nameFrom s f (pos+(Utf8.decode s pos).2):=by
   conv=>lhs;unfold nameFrom
   rw[if_pos hlt]
  generalize (Utf8.decode s pos).1=r at *;generalize (Utf8.decode s pos).2=w at *;have hnx:badRune r pos=false→nameFrom s s.size 0=nameFrom s f (pos+w):=fun hb=>by rw[h3,h5,hb];rfl
  have hfl:badRune r pos=true→nameV s=false:=fun hb=>by unfold nameV;rw[h3,h5,hb];rfl
  have hS:∀ o,St.le S (S1.upd bi o):=fun o=>St.le_upd h2 hbi _
  clear h3 h5;conv=>whnf
  cases hb1:decide ((r:Int) ≥ 97) with
  | true=>
    conv=>whnf
    cases hb2:decide ((r:Int)≤122) with
    | true=>
      conv=>whnf
      exact⟨(pos+w,f),⟨rfl,rfl,trivial⟩,⟨_,St.leW_refl _,St.upd_same _ _ _,hS _,hnx (by simp[badRune,hb1,hb2]),by dsimp only;omega⟩,by dsimp only;omega⟩
    | false=>
      conv=>whnf
      cases hb3:decide ((r:Int) ≥ 65) with
      | true=>
        conv=>whnf
        cases hb4:decide ((r:Int)≤90) with
        | true=>
          conv=>whnf
          exact⟨(pos+w,f),⟨rfl,rfl,trivial⟩,⟨_,St.leW_refl _,St.upd_same _ _ _,hS _,hnx (by simp[badRune,hb1,hb2,hb3,hb4]),by dsimp only;omega⟩,by dsimp only;omega⟩
        | false=>
          conv=>whnf
          cases hb5:((r:Int) == 95) with
          | true=>
            conv=>whnf
            exact⟨(pos+w,f),⟨rfl,rfl,trivial⟩,⟨_,St.leW_refl _,St.upd_same _ _ _,hS _,hnx (by simp[badRune,hb1,hb2,hb3,hb4,hb5]),by dsimp only;omega⟩,by dsimp only;omega⟩
          | false=>
            conv=>whnf
            cases hc1:((pos:Int) == 0) with
            | true=>
              conv=>whnf
              refine hQ _ _ _ (by simp) ?_
              conv=>whnf
              exact⟨_,_,⟨congrArg (fun b=>Out.ret (AV.bool b)) (hfl (by simp[badRune,hb1,hb2,hb3,hb4,hb5,hc1])).symm,rfl⟩,hS _,AV.leS_refl _ _ _⟩
            | false=>
              conv=>whnf
              cases hc2:decide ((r:Int)<48) with
              | true=>
                conv=>whnf
                refine hQ _ _ _ (by simp) ?_
                conv=>whnf
                exact⟨_,_,⟨congrArg (fun b=>Out.ret (AV.bool b)) (hfl (by simp[badRune,hb1,hb2,hb3,hb4,hb5,hc1,hc2])).symm,rfl⟩,hS _,AV.leS_refl _ _ _⟩
              | false=>
                conv=>whnf
                cases hc3:decide ((r:Int) > 57) with
                | true=>
                  conv=>whnf
                  refine hQ _ _ _ (by simp) ?_
                  conv=>whnf
                  exact⟨_,_,⟨congrArg (fun b=>Out.ret (AV.bool b)) (hfl (by simp[badRune,hb1,hb2,hb3,hb4,hb5,hc1,hc2,hc3])).symm,rfl⟩,hS _,AV.leS_refl _ _ _⟩
                | false=>
                  conv=>whnf
                  exact⟨(pos+w,f),⟨rfl,rfl,trivial⟩,⟨_,St.leW_refl _,St.upd_same _ _ _,hS _,hnx (by simp[badRune,hb1,hb2,hb3,hb4,hb5,hc1,hc2,hc3]),by dsimp only;omega⟩,by dsimp only;omega⟩
      | false=>
        conv=>whnf
        cases hb5:((r:Int) == 95) with
        | true=>
          conv=>whnf
          exact⟨(pos+w,f),⟨rfl,rfl,trivial⟩,⟨_,St.leW_refl _,St.upd_same _ _ _,hS _,hnx (by simp[badRune,hb1,hb2,hb3,hb5]),by dsimp only;omega⟩,by dsimp only;omega⟩
        | false=>
          conv=>whnf
          cases hc1:((pos:Int) == 0) with
          | true=>
            conv=>whnf
            refine hQ _ _ _ (by simp) ?_
            conv=>whnf
            exact⟨_,_,⟨congrArg (fun b=>Out.ret (AV.bool b)) (hfl (by simp[badRune,hb1,hb2,hb3,hb5,hc1])).symm,rfl⟩,hS _,AV.leS_refl _ _ _⟩
          | false=>
            conv=>whnf
            cases hc2:decide ((r:Int)<48) with
            | true=>
              conv=>whnf
              refine hQ _ _ _ (by simp) ?_
              conv=>whnf
              exact⟨_,_,⟨congrArg (fun b=>Out.ret (AV.bool b)) (hfl (by simp[badRune,hb1,hb2,hb3,hb5,hc1,hc2])).symm,rfl⟩,hS _,AV.leS_refl _ _ _⟩
            | false=>
              conv=>whnf
              cases hc3:decide ((r:Int) > 57) with
              | true=>
                conv=>whnf
                refine hQ _ _ _ (by simp) ?_
                conv=>whnf
                exact⟨_,_,⟨congrArg (fun b=>Out.ret (AV.bool b)) (hfl (by simp[badRune,hb1,hb2,hb3,hb5,hc1,hc2,hc3])).symm,rfl⟩,hS _,AV.leS_refl _ _ _⟩
              | false=>
                conv=>whnf
                exact⟨(pos+w,f),⟨rfl,rfl,trivial⟩,⟨_,St.leW_refl _,St.upd_same _ _ _,hS _,hnx (by simp[badRune,hb1,hb2,hb3,hb5,hc1,hc2,hc3]),by dsimp only;omega⟩,by dsimp only;omega⟩
  | false=>
    conv=>whnf
    cases hb3:decide ((r:Int) ≥ 65) with
    | true=>
      conv=>whnf
      cases hb4:decide ((r:Int)≤90) with
      | true=>
        conv=>whnf
        exact⟨(pos+w,f),⟨rfl,rfl,trivial⟩,⟨_,St.leW_refl _,St.upd_same _ _ _,hS _,hnx (by simp[badRune,hb1,hb3,hb4]),by dsimp only;omega⟩,by dsimp only;omega⟩
      | false=>
        conv=>whnf
        cases hb5:((r:Int) == 95) with
        | true=>
          conv=>whnf
          exact⟨(pos+w,f),⟨rfl,rfl,trivial⟩,⟨_,St.leW_refl _,St.upd_same _ _ _,hS _,hnx (by simp[badRune,hb1,hb3,hb4,hb5]),by dsimp only;omega⟩,by dsimp only;omega⟩
        | false=>
          conv=>whnf
          cases hc1:((pos:Int) == 0) with
          | true=>
            conv=>whnf
            refine hQ _ _ _ (by simp) ?_
            conv=>whnf
            exact⟨_,_,⟨congrArg (fun b=>Out.ret (AV.bool b)) (hfl (by simp[badRune,hb1,hb3,hb4,hb5,hc1])).symm,rfl⟩,hS _,AV.leS_refl _ _ _⟩
          | false=>
            conv=>whnf
            cases hc2:decide ((r:Int)<48) with
            | true=>
              conv=>whnf
              refine hQ _ _ _ (by simp) ?_
              conv=>whnf
              exact⟨_,_,⟨congrArg (fun b=>Out.ret (AV.bool b)) (hfl (by simp[badRune,hb1,hb3,hb4,hb5,hc1,hc2])).symm,rfl⟩,hS _,AV.leS_refl _ _ _⟩
            | false=>
              conv=>whnf
              cases hc3:decide ((r:Int) > 57) with
              | true=>
                conv=>whnf
                refine hQ _ _ _ (by simp) ?_
                conv=>whnf
                exact⟨_,_,⟨congrArg (fun b=>Out.ret (AV.bool b)) (hfl (by simp[badRune,hb1,hb3,hb4,hb5,hc1,hc2,hc3])).symm,rfl⟩,hS _,AV.leS_refl _ _ _⟩
              | false=>
                conv=>whnf
                exact⟨(pos+w,f),⟨rfl,rfl,trivial⟩,⟨_,St.leW_refl _,St.upd_same _ _ _,hS _,hnx (by simp[badRune,hb1,hb3,hb4,hb5,hc1,hc2,hc3]),by dsimp only;omega⟩,by dsimp only;omega⟩
    | false=>
      conv=>whnf
      cases hb5:((r:Int) == 95) with
      | true=>
        conv=>whnf
        exact⟨(pos+w,f),⟨rfl,rfl,trivial⟩,⟨_,St.leW_refl _,St.upd_same _ _ _,hS _,hnx (by simp[badRune,hb1,hb3,hb5]),by dsimp only;omega⟩,by dsimp only;omega⟩
      | false=>
        conv=>whnf
        cases hc1:((pos:Int) == 0) with
        | true=>
          conv=>whnf
          refine hQ _ _ _ (by simp) ?_
          conv=>whnf
          exact⟨_,_,⟨congrArg (fun b=>Out.ret (AV.bool b)) (hfl (by simp[badRune,hb1,hb3,hb5,hc1])).symm,rfl⟩,hS _,AV.leS_refl _ _ _⟩
        | false=>
          conv=>whnf
          cases hc2:decide ((r:Int)<48) with
          | true=>
            conv=>whnf
            refine hQ _ _ _ (by simp) ?_
            conv=>whnf
            exact⟨_,_,⟨congrArg (fun b=>Out.ret (AV.bool b)) (hfl (by simp[badRune,hb1,hb3,hb5,hc1,hc2])).symm,rfl⟩,hS _,AV.leS_refl _ _ _⟩
          | false=>
            conv=>whnf
            cases hc3:decide ((r:Int) > 57) with
            | true=>
              conv=>whnf
              refine hQ _ _ _ (by simp) ?_
              conv=>whnf
              exact⟨_,_,⟨congrArg (fun b=>Out.ret (AV.bool b)) (hfl (by simp[badRune,hb1,hb3,hb5,hc1,hc2,hc3])).symm,rfl⟩,hS _,AV.leS_refl _ _ _⟩
            | false=>
              conv=>whnf
              exact⟨(pos+w,f),⟨rfl,rfl,trivial⟩,⟨_,St.leW_refl _,St.upd_same _ _ _,hS _,hnx (by simp[badRune,hb1,hb3,hb5,hc1,hc2,hc3]),by dsimp only;omega⟩,by dsimp only;omega⟩
 ·have hlt:s.size≤pos:=by have:=of_decide_eq_false hlt;omega
  rw[nameFrom_end s f pos hlt] at h3;have hnv:nameV s=(decide ((s.size:Int) ≥ 1) && decide ((s.size:Int)≤16)):=by unfold nameV;rw[h3];rfl
  conv=>whnf
  refine hK _ _ ?_;clear hK hQ K;conv=>whnf
  cases hq:decide ((s.size:Int) ≥ 1) with
  | true=>
    conv=>whnf
    exact⟨_,_,⟨congrArg (fun b=>Out.ret (AV.bool b)) (hnv.trans (by rw[hq];rfl)).symm,rfl⟩,h2,AV.leS_refl _ _ _⟩
  | false=>
    conv=>whnf
    exact⟨_,_,⟨congrArg (fun b=>Out.ret (AV.bool b)) (hnv.trans (by rw[hq];rfl)).symm,rfl⟩,h2,AV.leS_refl _ _ _⟩
def badVarV(vars:Int)(t:TermV):Bool:=decide (t.2<0) || decide (t.2 ≥ vars)
def badCoefV(t:TermV):Bool:=(t.1 == 0) || !withinV t.1 1000000
theorem terms_ok(l:List TermV)(hmax:l.length+1≤9223372036854775807)(vars:Int)(S:St):Triple P (C G) 64 [.sl .any 2 (rowsTm l),.int .i64 vars] S fun o S'=>o=.ret (.tu [.bool (l.any (badVarV vars)),.bool (l.any badCoefV)])∧S'=S:=by
 have hwt:=fun c S=>within_ok (G:=G) c 1000000 (by decide) (by decide) S
 refine triple_of_awp (hT G) hm Tryz.func64 rfl (by decide +kernel) rfl (by decide +kernel) (by show 2≤_;decide +kernel) rfl ?_
 refine awp_seq2 fun K hK hQ=>?_
 conv=>whnf
 refine hK _ _ ?_;clear hK hQ K;refine awp_seq2 fun K hK hQ=>?_
 conv=>whnf
 intro _;conv=>whnf
 refine⟨⟨Nat,fun i=>[(1,.int .i64 vars),(4,.bool ((l.take i).any (badVarV vars))),(5,.bool ((l.take i).any badCoefV)),(8,.sl .any 2 (rowsTm l)),(9,.int .i64 (l.length:Int)),(10,.int .i64 (i:Int))],
  fun i S1=>St.le S S1∧i≤l.length,fun i=>l.length-i⟩,
  ⟨0,⟨rfl,rfl,rfl,⟨rfl,rfl⟩,congrArg (fun z:Nat=>AV.int .i64 (z:Int)) (rowsTm_len l),rfl,trivial⟩,_,St.leW_refl _,St.le_refl _,Nat.zero_le _⟩,?_⟩
 rintro(i:Nat) S1 ⟨hle,hi⟩;refine awp_seq2 fun K2 hK2 hQ2=>?_
 conv=>whnf
 refine hK2 _ _ ?_;clear hK2 hQ2 K2;refine awp_seq2 fun K2 hK2 hQ2=>?_
 conv=>whnf
 refine split_of (fun hlt=>?_) (fun hlt=>?_)
 ·have hlt:i<l.length:=by have:=of_decide_eq_true hlt;omega
  have w1:IntKind.i64.wrap ((i:Int)+1)=((i+1:Nat):Int):=wrap_nat (by omega)
  have ga:(rowsTm l)[(i:Int).toNat]? = some [.int .i64 l[i].1,.int .i64 l[i].2]:=by simp[rowsTm,hlt]
  have ht:l.take (i+1)=l.take i++[l[i]]:=by rw[List.take_add_one];simp[hlt]
  have hn1:∀ b,(l.take i).any (badVarV vars)=b→(l.take (i+1)).any (badVarV vars)=(b || badVarV vars l[i]):=fun b hb=>by rw[ht,List.any_append,hb];simp
  have hn2:∀ b,(l.take i).any badCoefV=b→(l.take (i+1)).any badCoefV=(b || badCoefV l[i]):=fun b hb=>by rw[ht,List.any_append,hb];simp
  generalize l[i]=t at *;obtain⟨c,x⟩:=t;dsimp only at ga;conv=>whnf
  refine hK2 _ _ ?_;clear hK2 hQ2 K2;refine awp_seq2 fun K2 hK2 hQ2=>?_
  refine awp_blk1 ?_;refine awp_seq2 fun K3 hK3 hQ3=>?_
  conv=>whnf
  refine⟨_,⟨by omega,ga⟩,?_⟩
  conv=>whnf
  intro b7 hb7;conv=>whnf
  refine⟨_,_,St.upd_same _ _ _,?_⟩;conv=>whnf
  rw[St.upd_upd];refine hK3 _ _ ?_;clear hK3 hQ3 K3;refine awp_seq2 fun K3 hK3 hQ3=>?_
  conv=>whnf
  cases hb1:(l.take i).any (badVarV vars) with
  | true=>
    conv=>whnf
    refine hK3 _ _ ?_;clear hK3 hQ3 K3;conv=>whnf
    -- hn1 true hb1 what R4 leaves
    cases hb2:(l.take i).any badCoefV with
    | true=>
      conv=>whnf
      refine hK2 _ _ ?_;clear hK2 hQ2 K2;conv=>whnf
      exact⟨i+1,⟨rfl,congrArg _ (hn1 true hb1).symm,congrArg _ (hn2 true hb2).symm,⟨rfl,rfl⟩,rfl,congrArg _ w1,trivial⟩,⟨_,St.leW_refl _,St.le_upd' hle hb7 _,hlt⟩,by show l.length-(i+1)<l.length-i;omega⟩
    | false=>
      conv=>whnf
      refine⟨_,_,St.upd_same _ _ _,?_⟩;conv=>whnf
      cases hc:(c == 0) with
      | true=>
        conv=>whnf
        refine hK2 _ _ ?_;clear hK2 hQ2 K2;conv=>whnf
        exact⟨i+1,⟨rfl,congrArg _ (hn1 true hb1).symm,congrArg _ ((hn2 false hb2).trans (by show(false || ((c == 0) || !withinV c 1000000))=_;rw[hc];rfl)).symm,⟨rfl,rfl⟩,rfl,congrArg _ w1,trivial⟩,⟨_,St.leW_refl _,St.le_upd' hle hb7 _,hlt⟩,by show l.length-(i+1)<l.length-i;omega⟩
      | false=>
        conv=>whnf
        refine⟨_,_,St.upd_same _ _ _,?_⟩;conv=>whnf
        refine(hwt c _).mono ?_;rintro o T ⟨rfl,rfl⟩;conv=>whnf
        refine hK2 _ _ ?_;clear hK2 hQ2 K2;conv=>whnf
        exact⟨i+1,⟨rfl,congrArg _ (hn1 true hb1).symm,congrArg _ ((hn2 false hb2).trans (by show(false || ((c == 0) || !withinV c 1000000))=_;rw[hc];rfl)).symm,⟨rfl,rfl⟩,rfl,congrArg _ w1,trivial⟩,⟨_,St.leW_refl _,St.le_upd' hle hb7 _,hlt⟩,by show l.length-(i+1)<l.length-i;omega⟩
  | false=>
    conv=>whnf
    refine⟨_,_,St.upd_same _ _ _,?_⟩;conv=>whnf
    cases hx:decide (x<0) with
    | true=>
      conv=>whnf
      refine hK3 _ _ ?_;clear hK3 hQ3 K3;conv=>whnf
      -- (hn1 false hb1).trans (by show(false || (decide (x<0) || decide (x ≥ vars)))=_;rw[hx];rfl) what R4 leaves
      cases hb2:(l.take i).any badCoefV with
      | true=>
        conv=>whnf
        refine hK2 _ _ ?_;clear hK2 hQ2 K2;conv=>whnf
        exact⟨i+1,⟨rfl,congrArg _ ((hn1 false hb1).trans (by show(false || (decide (x<0) || decide (x ≥ vars)))=_;rw[hx];rfl)).symm,congrArg _ (hn2 true hb2).symm,⟨rfl,rfl⟩,rfl,congrArg _ w1,trivial⟩,⟨_,St.leW_refl _,St.le_upd' hle hb7 _,hlt⟩,by show l.length-(i+1)<l.length-i;omega⟩
      | false=>
        conv=>whnf
        refine⟨_,_,St.upd_same _ _ _,?_⟩;conv=>whnf
        cases hc:(c == 0) with
        | true=>
          conv=>whnf
          refine hK2 _ _ ?_;clear hK2 hQ2 K2;conv=>whnf
          exact⟨i+1,⟨rfl,congrArg _ ((hn1 false hb1).trans (by show(false || (decide (x<0) || decide (x ≥ vars)))=_;rw[hx];rfl)).symm,congrArg _ ((hn2 false hb2).trans (by show(false || ((c == 0) || !withinV c 1000000))=_;rw[hc];rfl)).symm,⟨rfl,rfl⟩,rfl,congrArg _ w1,trivial⟩,⟨_,St.leW_refl _,St.le_upd' hle hb7 _,hlt⟩,by show l.length-(i+1)<l.length-i;omega⟩
        | false=>
          conv=>whnf
          refine⟨_,_,St.upd_same _ _ _,?_⟩;conv=>whnf
          refine(hwt c _).mono ?_;rintro o T ⟨rfl,rfl⟩;conv=>whnf
          refine hK2 _ _ ?_;clear hK2 hQ2 K2;conv=>whnf
          exact⟨i+1,⟨rfl,congrArg _ ((hn1 false hb1).trans (by show(false || (decide (x<0) || decide (x ≥ vars)))=_;rw[hx];rfl)).symm,congrArg _ ((hn2 false hb2).trans (by show(false || ((c == 0) || !withinV c 1000000))=_;rw[hc];rfl)).symm,⟨rfl,rfl⟩,rfl,congrArg _ w1,trivial⟩,⟨_,St.leW_refl _,St.le_upd' hle hb7 _,hlt⟩,by show l.length-(i+1)<l.length-i;omega⟩
    | false=>
      conv=>whnf
      refine⟨_,_,St.upd_same _ _ _,?_⟩;conv=>whnf
      refine hK3 _ _ ?_;clear hK3 hQ3 K3;conv=>whnf
      -- (hn1 false hb1).trans (by show(false || (decide (x<0) || decide (x ≥ vars)))=_;rw[hx];rfl) what R4 leaves
      cases hb2:(l.take i).any badCoefV with
      | true=>
        conv=>whnf
        refine hK2 _ _ ?_;clear hK2 hQ2 K2;conv=>whnf
        exact⟨i+1,⟨rfl,congrArg _ ((hn1 false hb1).trans (by show(false || (decide (x<0) || decide (x ≥ vars)))=_;rw[hx];rfl)).symm,congrArg _ (hn2 true hb2).symm,⟨rfl,rfl⟩,rfl,congrArg _ w1,trivial⟩,⟨_,St.leW_refl _,St.le_upd' hle hb7 _,hlt⟩,by show l.length-(i+1)<l.length-i;omega⟩
      | false=>
        conv=>whnf
        refine⟨_,_,St.upd_same _ _ _,?_⟩;conv=>whnf
        cases hc:(c == 0) with
        | true=>
          conv=>whnf
          refine hK2 _ _ ?_;clear hK2 hQ2 K2;conv=>whnf
          exact⟨i+1,⟨rfl,congrArg _ ((hn1 false hb1).trans (by show(false || (decide (x<0) || decide (x ≥ vars)))=_;rw[hx];rfl)).symm,congrArg _ ((hn2 false hb2).trans (by show(false || ((c == 0) || !withinV c 1000000))=_;rw[hc];rfl)).symm,⟨rfl,rfl⟩,rfl,congrArg _ w1,trivial⟩,⟨_,St.leW_refl _,St.le_upd' hle hb7 _,hlt⟩,by show l.length-(i+1)<l.length-i;omega⟩
        | false=>
          conv=>whnf
          refine⟨_,_,St.upd_same _ _ _,?_⟩;conv=>whnf
          refine(hwt c _).mono ?_;rintro o T ⟨rfl,rfl⟩;conv=>whnf
          refine hK2 _ _ ?_;clear hK2 hQ2 K2;conv=>whnf
          exact⟨i+1,⟨rfl,congrArg _ ((hn1 false hb1).trans (by show(false || (decide (x<0) || decide (x ≥ vars)))=_;rw[hx];rfl)).symm,congrArg _ ((hn2 false hb2).trans (by show(false || ((c == 0) || !withinV c 1000000))=_;rw[hc];rfl)).symm,⟨rfl,rfl⟩,rfl,congrArg _ w1,trivial⟩,⟨_,St.leW_refl _,St.le_upd' hle hb7 _,hlt⟩,by show l.length-(i+1)<l.length-i;omega⟩
 ·have hlt:i=l.length:=by have:=of_decide_eq_false hlt;omega
  subst hlt;conv=>whnf
  refine hQ2 _ _ _ (by simp) ?_
  clear hK2 hQ2 K2;conv=>whnf
  refine hK _ _ ?_;clear hK hQ K;conv=>whnf
  exact⟨_,_,⟨by rw[List.take_length],rfl⟩,hle,AV.leS_refl _ _ _⟩
theorem variable1_ok(w v:VarV){S:St}{b:Nat}(h:S b=some (.obj 49 (rowV v))):Triple P (C G) 103 [.ag (rowV w),.ref b 0] S fun o S'=>o=.ret (.bool (decide (w.1=v.1)))∧S'=S:=by
 unfold rowV at h ⊢;refine triple_of_awp (hT G) hm Tryz.func103 rfl (by decide +kernel) rfl (by decide +kernel) (by show 2≤_;decide +kernel) rfl ?_
 conv=>whnf
 intro b2 hb2;conv=>whnf
 refine⟨_,_,St.upd_same _ _ _,?_⟩;conv=>whnf
 refine⟨_,_,St.up hb2 h,?_⟩;conv=>whnf
 exact⟨_,_,⟨rfl,rfl⟩,St.le_upd' (St.le_refl _) hb2 _,AV.leS_refl _ _ _⟩
def variableV(l:List VarV)(i:Nat)(v:VarV):Int:=
 if !nameV v.1 || (l.take i).any (fun w=>decide (w.1=v.1)) then 41
 else if !withinV v.2.1 1000000000 || !withinV v.2.2 1000000000 || decide (v.2.1 > v.2.2) || decide (IntKind.i64.wrap (v.2.2-v.2.1) ≥ 64) then 42 else 0
theorem variable_ok(l:List VarV)(hmax:l.length+1≤9223372036854775807)(i:Nat)(v:VarV)(hv:l[i]? = some v)(S:St):Triple P (C G) 62 [.sl .any 3 (rowsV l),.int .i64 (i:Int)] S fun o S'=>o=.ret (.int .i64 (variableV l i v))∧S'=S:=by
 have hi:i<l.length:=by
  rcases Nat.lt_or_ge i l.length with h | h
  ·exact h
  ·rw[List.getElem?_eq_none h] at hv;cases hv
 have ga:(rowsV l)[(i:Int).toNat]? = some (rowV v):=by
  show(l.map rowV)[i]? = _
  rw[List.getElem?_map,hv];rfl
 have hrl:(rowsV l).length=l.length:=rowsV_len l
 have htk:((rowsV l).take (i:Int).toNat).drop (0:Int).toNat=rowsV (l.take i):=by
  show((l.map rowV).take i).drop 0=_
  rw[List.drop_zero,← List.map_take];rfl
 have hnm:=fun S=>isName_ok (G:=G) v.1 S
 have hwi:=fun n S=>within_ok (G:=G) n 1000000000 (by decide) (by decide) S
 have hcf:∀ (S:St) (b:Nat),S b=some (.obj 49 (rowV v))→Triple P (C G) 102 [.sl .any 3 (rowsV (l.take i)),.fn (.func 103) [] [.ref b 0]] S fun o S'=>o=.ret (.bool ((l.take i).any (fun w=>decide (w.1=v.1))))∧S'=S:=
  fun S b h=>ContainsV_ok (by rw[List.length_take];omega) fun w _=>variable1_ok w v h
 have hspec1:(!nameV v.1 || (l.take i).any (fun w=>decide (w.1=v.1)))=true→variableV l i v=41:=fun h=>by unfold variableV;rw[if_pos h]
 have hspec2:(!nameV v.1 || (l.take i).any (fun w=>decide (w.1=v.1)))=false→(!withinV v.2.1 1000000000 || !withinV v.2.2 1000000000 || decide (v.2.1 > v.2.2) || decide (IntKind.i64.wrap (v.2.2-v.2.1) ≥ 64))=true→variableV l i v=42:=fun h1 h2=>by
  unfold variableV;rw[if_neg (by rw[h1];simp),if_pos h2]
 have hspec3:(!nameV v.1 || (l.take i).any (fun w=>decide (w.1=v.1)))=false→(!withinV v.2.1 1000000000 || !withinV v.2.2 1000000000 || decide (v.2.1 > v.2.2) || decide (IntKind.i64.wrap (v.2.2-v.2.1) ≥ 64))=false→variableV l i v=0:=fun h1 h2=>by
  unfold variableV;rw[if_neg (by rw[h1];simp),if_neg (by rw[h2];simp)]
 generalize (l.take i).any (fun w=>decide (w.1=v.1))=tw at *
 generalize variableV l i v=res at *;obtain⟨nm,lo,up⟩:=v;dsimp only at *;unfold rowV at ga hcf;dsimp only at ga hcf;refine triple_of_awp (hT G) hm Tryz.func62 rfl (by decide +kernel) rfl (by decide +kernel) (by show 2≤_;decide +kernel) rfl ?_
 refine awp_seq2 fun K hK hQ=>?_
 conv=>whnf
 refine hK _ _ ?_;clear hK hQ K;refine awp_seq2 fun K hK hQ=>?_
 conv=>whnf
 refine⟨_,⟨by omega,ga⟩,?_⟩
 conv=>whnf
 intro b5 hb5;conv=>whnf
 refine⟨_,_,St.upd_same _ _ _,?_⟩;conv=>whnf
 rw[St.upd_upd];refine hK _ _ ?_;clear hK hQ K;have q5:=St.upd_same S b5 (.obj 49 [.str nm,.int .i64 lo,.int .i64 up]);have hle5:=St.le_upd' (St.le_refl S) hb5 (.obj 49 [.str nm,.int .i64 lo,.int .i64 up]);generalize S.upd b5 (.obj 49 [.str nm,.int .i64 lo,.int .i64 up])=T at *;refine awp_seq2 fun K hK hQ=>?_
 conv=>whnf
 refine⟨_,_,q5,?_⟩;conv=>whnf
 refine(hnm _).mono ?_;rintro o T' ⟨rfl,rfl⟩
 cases hn:nameV nm with
 | false=>
   conv=>whnf
   conv=>whnf
   refine hQ _ _ _ (by simp) ?_
   conv=>whnf
   exact⟨_,_,⟨congrArg (fun z=>Out.ret (AV.int .i64 z)) (hspec1 (by rw[hn];rfl)).symm,rfl⟩,hle5,AV.leS_refl _ _ _⟩
 | true=>
   conv=>whnf
   refine⟨⟨by omega,by omega,by omega⟩,?_⟩
   conv=>whnf
   have hcf':=hcf _ _ q5
   rw[← htk] at hcf';refine hcf'.mono ?_;rintro o T'' ⟨rfl,rfl⟩
   cases htw:tw with
   | true=>
     conv=>whnf
     conv=>whnf
     refine hQ _ _ _ (by simp) ?_
     conv=>whnf
     exact⟨_,_,⟨congrArg (fun z=>Out.ret (AV.int .i64 z)) (hspec1 (by rw[hn,htw];rfl)).symm,rfl⟩,hle5,AV.leS_refl _ _ _⟩
   | false=>
     have hor:(!nameV nm || tw)=false:=by rw[hn,htw];rfl
     conv=>whnf
     refine hK _ _ ?_;clear hK hQ K;refine awp_seq2 fun K hK hQ=>?_
     conv=>whnf
     refine⟨_,_,q5,?_⟩;conv=>whnf
     refine(hwi _ _).mono ?_;rintro o T' ⟨rfl,rfl⟩
     cases h1:withinV lo 1000000000 with
     | false=>
       conv=>whnf
       conv=>whnf
       refine hQ _ _ _ (by simp) ?_
       conv=>whnf
       exact⟨_,_,⟨congrArg (fun z=>Out.ret (AV.int .i64 z)) (hspec2 hor (by rw[h1];rfl)).symm,rfl⟩,hle5,AV.leS_refl _ _ _⟩
     | true=>
       conv=>whnf
       refine⟨_,_,q5,?_⟩;conv=>whnf
       refine(hwi _ _).mono ?_;rintro o T' ⟨rfl,rfl⟩
       cases h2:withinV up 1000000000 with
       | false=>
         conv=>whnf
         conv=>whnf
         refine hQ _ _ _ (by simp) ?_
         conv=>whnf
         exact⟨_,_,⟨congrArg (fun z=>Out.ret (AV.int .i64 z)) (hspec2 hor (by rw[h1,h2];rfl)).symm,rfl⟩,hle5,AV.leS_refl _ _ _⟩
       | true=>
         conv=>whnf
         refine⟨_,_,q5,?_⟩;conv=>whnf
         refine⟨_,_,q5,?_⟩;conv=>whnf
         cases h3:decide (lo > up) with
         | true=>
           conv=>whnf
           conv=>whnf
           refine hQ _ _ _ (by simp) ?_
           conv=>whnf
           exact⟨_,_,⟨congrArg (fun z=>Out.ret (AV.int .i64 z)) (hspec2 hor (by rw[h1,h2,h3];rfl)).symm,rfl⟩,hle5,AV.leS_refl _ _ _⟩
         | false=>
           conv=>whnf
           refine⟨_,_,q5,?_⟩;conv=>whnf
           refine⟨_,_,q5,?_⟩;conv=>whnf
           cases h4:decide (IntKind.i64.wrap (up-lo) ≥ 64) with
           | true=>
             conv=>whnf
             refine hQ _ _ _ (by simp) ?_
             conv=>whnf
             exact⟨_,_,⟨congrArg (fun z=>Out.ret (AV.int .i64 z)) (hspec2 hor (by rw[h1,h2,h3,h4];rfl)).symm,rfl⟩,hle5,AV.leS_refl _ _ _⟩
           | false=>
             conv=>whnf
             refine hK _ _ ?_;clear hK hQ K;conv=>whnf
             exact⟨_,_,⟨congrArg (fun z=>Out.ret (AV.int .i64 z)) (hspec3 hor (by rw[h1,h2,h3,h4];rfl)).symm,rfl⟩,hle5,AV.leS_refl _ _ _⟩
def goalV(m:ModelV):Int:=
 if !m.hasGoal && decide ((m.goal.length:Int) > 0) then 48
 else if !countsV m.hasGoal m.goal.length then 47
 else if m.goal.any (badVarV m.vars.length) then 44
 else if m.goal.any badCoefV then 45 else 0
theorem goal_ok(m:ModelV)(hmax:m.goal.length+1≤9223372036854775807)(hv:m.vars.length≤9223372036854775807)(S:St):Triple P (C G) 63 [.ag (rowM m)] S fun o S'=>o=.ret (.int .i64 (goalV m))∧S'=S:=by
 have hte:=fun S=>terms_ok (G:=G) m.goal hmax (m.vars.length:Int) S
 have hco:=fun S=>counts_ok (G:=G) m.hasGoal (m.goal.length:Int) S
 have hlv:=rowsV_len m.vars
 have hlg:=rowsTm_len m.goal
 unfold rowM;refine triple_of_awp (hT G) hm Tryz.func63 rfl (by decide +kernel) rfl (by decide +kernel) (by show 1≤_;decide +kernel) rfl ?_
 refine awp_seq2 fun K hK hQ=>?_
 conv=>whnf
 intro b1 hb1;conv=>whnf
 refine hK _ _ ?_;clear hK hQ K;have q1:=St.upd_same S b1 (.obj 26 [.sl .any 3 (rowsV m.vars),.sl .any 10 (rowsC m.cons),.bool m.hasGoal,.sl .any 2 (rowsTm m.goal)]);have hle:=St.le_upd' (St.le_refl S) hb1 (.obj 26 [.sl .any 3 (rowsV m.vars),.sl .any 10 (rowsC m.cons),.bool m.hasGoal,.sl .any 2 (rowsTm m.goal)]);generalize S.upd b1 (.obj 26 [.sl .any 3 (rowsV m.vars),.sl .any 10 (rowsC m.cons),.bool m.hasGoal,.sl .any 2 (rowsTm m.goal)])=T at *;refine awp_seq2 fun K hK hQ=>?_
 conv=>whnf
 refine⟨_,_,q1,?_⟩;conv=>whnf
 refine⟨_,_,q1,?_⟩;conv=>whnf
 intro _;rw[hlv];conv=>whnf
 refine(hte _).mono ?_;rintro o T' ⟨rfl,rfl⟩;conv=>whnf
 refine hK _ _ ?_;clear hK hQ K;refine awp_seq2 fun K hK hQ=>?_
 conv=>whnf
 refine⟨_,_,q1,?_⟩;conv=>whnf
 cases hg:m.hasGoal with
 | true=>
   have h1:(!m.hasGoal && decide ((m.goal.length:Int) > 0))=false:=by rw[hg];rfl
   conv=>whnf
   refine⟨_,_,q1,?_⟩;conv=>whnf
   refine⟨_,_,q1,?_⟩;conv=>whnf
   intro _;rw[hlg];conv=>whnf
   refine(hco _).mono ?_;rintro o T' ⟨rfl,rfl⟩
   cases h2:countsV m.hasGoal m.goal.length with
   | false=>
     -- rw[if_neg (by rw[h1];simp),if_pos (by rw[h2];rfl)] the rows of conditions
     conv=>whnf
     refine hQ _ _ _ (by simp) ?_
     conv=>whnf
     exact⟨_,_,⟨congrArg (fun z=>Out.ret (AV.int .i64 z)) (show(47:Int)=goalV m by unfold goalV;rw[if_neg (by rw[h1];simp),if_pos (by rw[h2];rfl)]),rfl⟩,hle,AV.leS_refl _ _ _⟩
   | true=>
     conv=>whnf
     cases h3:m.goal.any (badVarV m.vars.length) with
     | true=>
       -- rw[if_neg (by rw[h1];simp),if_neg (by rw[h2];simp),if_pos h3] the rows of conditions
       conv=>whnf
       refine hQ _ _ _ (by simp) ?_
       conv=>whnf
       exact⟨_,_,⟨congrArg (fun z=>Out.ret (AV.int .i64 z)) (show(44:Int)=goalV m by unfold goalV;rw[if_neg (by rw[h1];simp),if_neg (by rw[h2];simp),if_pos h3]),rfl⟩,hle,AV.leS_refl _ _ _⟩
     | false=>
       conv=>whnf
       cases h4:m.goal.any badCoefV with
       | true=>
         -- rw[if_neg (by rw[h1];simp),if_neg (by rw[h2];simp),if_neg (by rw[h3];simp),if_pos h4] the rows of conditions
         conv=>whnf
         refine hQ _ _ _ (by simp) ?_
         conv=>whnf
         exact⟨_,_,⟨congrArg (fun z=>Out.ret (AV.int .i64 z)) (show(45:Int)=goalV m by unfold goalV;rw[if_neg (by rw[h1];simp),if_neg (by rw[h2];simp),if_neg (by rw[h3];simp),if_pos h4]),rfl⟩,hle,AV.leS_refl _ _ _⟩
       | false=>
         conv=>whnf
         refine hK _ _ ?_;clear hK hQ K;conv=>whnf
         exact⟨_,_,⟨congrArg (fun z=>Out.ret (AV.int .i64 z)) (show(0:Int)=goalV m by unfold goalV;rw[if_neg (by rw[h1];simp),if_neg (by rw[h2];simp),if_neg (by rw[h3];simp),if_neg (by rw[h4];simp)]),rfl⟩,hle,AV.leS_refl _ _ _⟩
 | false=>
   conv=>whnf
   refine⟨_,_,q1,?_⟩;conv=>whnf
   intro _;rw[hlg];conv=>whnf
   cases h0:decide ((m.goal.length:Int) > 0) with
   | true=>
     -- rw[if_pos (by rw[hg,h0];rfl)] the rows of conditions
     conv=>whnf
     refine hQ _ _ _ (by simp) ?_
     conv=>whnf
     exact⟨_,_,⟨congrArg (fun z=>Out.ret (AV.int .i64 z)) (show(48:Int)=goalV m by unfold goalV;rw[if_pos (by rw[hg,h0];rfl)]),rfl⟩,hle,AV.leS_refl _ _ _⟩
   | false=>
     have h1:(!m.hasGoal && decide ((m.goal.length:Int) > 0))=false:=by rw[hg,h0];rfl
     conv=>whnf
     refine⟨_,_,q1,?_⟩;conv=>whnf
     refine⟨_,_,q1,?_⟩;conv=>whnf
     intro _;rw[hlg];conv=>whnf
     refine(hco _).mono ?_;rintro o T' ⟨rfl,rfl⟩
     cases h2:countsV m.hasGoal m.goal.length with
     | false=>
       -- rw[if_neg (by rw[h1];simp),if_pos (by rw[h2];rfl)] the rows of conditions
       conv=>whnf
       refine hQ _ _ _ (by simp) ?_
       conv=>whnf
       exact⟨_,_,⟨congrArg (fun z=>Out.ret (AV.int .i64 z)) (show(47:Int)=goalV m by unfold goalV;rw[if_neg (by rw[h1];simp),if_pos (by rw[h2];rfl)]),rfl⟩,hle,AV.leS_refl _ _ _⟩
     | true=>
       conv=>whnf
       cases h3:m.goal.any (badVarV m.vars.length) with
       | true=>
         -- rw[if_neg (by rw[h1];simp),if_neg (by rw[h2];simp),if_pos h3] the rows of conditions
         conv=>whnf
         refine hQ _ _ _ (by simp) ?_
         conv=>whnf
         exact⟨_,_,⟨congrArg (fun z=>Out.ret (AV.int .i64 z)) (show(44:Int)=goalV m by unfold goalV;rw[if_neg (by rw[h1];simp),if_neg (by rw[h2];simp),if_pos h3]),rfl⟩,hle,AV.leS_refl _ _ _⟩
       | false=>
         conv=>whnf
         cases h4:m.goal.any badCoefV with
         | true=>
           -- rw[if_neg (by rw[h1];simp),if_neg (by rw[h2];simp),if_neg (by rw[h3];simp),if_pos h4] the rows of conditions
           conv=>whnf
           refine hQ _ _ _ (by simp) ?_
           conv=>whnf
           exact⟨_,_,⟨congrArg (fun z=>Out.ret (AV.int .i64 z)) (show(45:Int)=goalV m by unfold goalV;rw[if_neg (by rw[h1];simp),if_neg (by rw[h2];simp),if_neg (by rw[h3];simp),if_pos h4]),rfl⟩,hle,AV.leS_refl _ _ _⟩
         | false=>
           conv=>whnf
           refine hK _ _ ?_;clear hK hQ K;conv=>whnf
           exact⟨_,_,⟨congrArg (fun z=>Out.ret (AV.int .i64 z)) (show(0:Int)=goalV m by unfold goalV;rw[if_neg (by rw[h1];simp),if_neg (by rw[h2];simp),if_neg (by rw[h3];simp),if_neg (by rw[h4];simp)]),rfl⟩,hle,AV.leS_refl _ _ _⟩
def firstE:List Int→Int
 | []=>0
 | e::r=>if e=0 then firstE r else e
def errsV(l:List VarV):List Int:=l.zipIdx.map fun p=>variableV l p.2 p.1
theorem errsV_at(l:List VarV)(i:Nat)(h:i<l.length):(errsV l).drop i=variableV l i l[i]::(errsV l).drop (i+1):=by
 have hl:i<(errsV l).length:=by simp[errsV,h]
 rw[List.drop_eq_getElem_cons hl]
 congr 1
 simp[errsV]
def checkE(m:ModelV)(conF:ConV→Int):Int:=
 if m.vars.length=0∨32<m.vars.length then 40
 else if firstE (errsV m.vars)≠0 then firstE (errsV m.vars)
 else if 64<m.cons.length then 49
 else if firstE (m.cons.map conF)≠0 then firstE (m.cons.map conF)
 else goalV m
theorem Check_ok(m:ModelV)(hg:m.goal.length+1≤9223372036854775807)(hv:m.vars.length+1≤9223372036854775807)(hc:m.cons.length+1≤9223372036854775807){conF:ConV→Int}
 (hcon:∀ c∈m.cons,∀ S,Triple P (C G) 53 [.ag (rowC c),.int .i64 (m.vars.length:Int)] S fun o S'=>o=.ret (.int .i64 (conF c))∧S'=S) (S:St) :
 Triple P (C G) 51 [.ag (rowM m)] S fun o S'=>(∃ i,o=.ret (.tu [.int .i64 i,.int .i64 (checkE m conF)]))∧S'=S:=by
 have hgo:=fun S=>goal_ok (G:=G) m hg (by omega) S
 have hva:=fun(i:Nat) (h:i<m.vars.length) S=>variable_ok (G:=G) m.vars hv i m.vars[i] (by simp[h]) S
 have hlv:=rowsV_len m.vars
 have hlc:=rowsC_len m.cons
 unfold rowM at hgo ⊢;refine triple_of_awp (hT G) hm Tryz.func51 rfl (by decide +kernel) rfl (by decide +kernel) (by show 1≤_;decide +kernel) rfl ?_
 refine awp_seq2 fun K hK hQ=>?_
 conv=>whnf
 intro b1 hb1;conv=>whnf
 refine hK _ _ ?_;clear hK hQ K;have q1:=St.upd_same S b1 (.obj 26 [.sl .any 3 (rowsV m.vars),.sl .any 10 (rowsC m.cons),.bool m.hasGoal,.sl .any 2 (rowsTm m.goal)]);have hle:=St.le_upd' (St.le_refl S) hb1 (.obj 26 [.sl .any 3 (rowsV m.vars),.sl .any 10 (rowsC m.cons),.bool m.hasGoal,.sl .any 2 (rowsTm m.goal)]);generalize S.upd b1 (.obj 26 [.sl .any 3 (rowsV m.vars),.sl .any 10 (rowsC m.cons),.bool m.hasGoal,.sl .any 2 (rowsTm m.goal)])=T at *;refine awp_seq2 fun K hK hQ=>?_
 conv=>whnf
 refine⟨_,_,q1,?_⟩;conv=>whnf
 intro _;rw[hlv];conv=>whnf
 cases h1:((m.vars.length:Int) == 0) with
 | true=>
   have h1':m.vars.length=0:=by have:=eq_of_beq h1;omega
   conv=>whnf
   refine hQ _ _ _ (by simp) ?_
   conv=>whnf
   exact⟨_,_,⟨⟨_,congrArg (fun z=>Out.ret (AV.tu [AV.int .i64 (0),AV.int .i64 z])) (show(40:Int)=checkE m conF by unfold checkE;rw[if_pos (.inl h1')])⟩,rfl⟩,hle,AV.leS_refl _ _ _⟩
 | false=>
 have h1':m.vars.length≠0:=fun h=>by rw[h] at h1;exact absurd h1 (by decide)
 conv=>whnf
 refine⟨_,_,q1,?_⟩;conv=>whnf
 intro _;rw[hlv];conv=>whnf
 cases h2:decide ((m.vars.length:Int) > 32) with
 | true=>
   have h2':32<m.vars.length:=by have:=of_decide_eq_true h2;omega
   conv=>whnf
   refine hQ _ _ _ (by simp) ?_
   conv=>whnf
   exact⟨_,_,⟨⟨_,congrArg (fun z=>Out.ret (AV.tu [AV.int .i64 (0),AV.int .i64 z])) (show(40:Int)=checkE m conF by unfold checkE;rw[if_pos (.inr h2')])⟩,rfl⟩,hle,AV.leS_refl _ _ _⟩
 | false=>
 have h2':¬ (m.vars.length=0∨32<m.vars.length):=by have:=of_decide_eq_false h2;omega
 conv=>whnf
 refine hK _ _ ?_;clear hK hQ K
 -- the variables
 refine awp_seq2 fun K hK hQ=>?_
 conv=>whnf
 refine⟨_,_,q1,?_⟩;conv=>whnf
 intro _;rw[hlv];conv=>whnf
 refine⟨⟨Nat,fun i=>[(1,.ref b1 0),(22,.int .i64 (m.vars.length:Int)),(23,.int .i64 (i:Int))],
  fun i S1=>S1=T∧i≤m.vars.length∧firstE (errsV m.vars)=firstE ((errsV m.vars).drop i),fun i=>m.vars.length-i⟩,
  ⟨0,⟨rfl,rfl,rfl,trivial⟩,_,St.leW_refl _,rfl,Nat.zero_le _,rfl⟩,?_⟩
 rintro(i:Nat) S1 ⟨rfl,hi,hf⟩;conv=>whnf
 refine split_of (fun hlt=>?_) (fun hlt=>?_)
 ·have hlt:i<m.vars.length:=by have:=of_decide_eq_true hlt;omega
  have w1:IntKind.i64.wrap ((i:Int)+1)=((i+1:Nat):Int):=wrap_nat (by omega)
  have hva:=hva i hlt
  rw[errsV_at _ i hlt] at hf;generalize variableV m.vars i m.vars[i]=e at *;conv=>whnf
  refine⟨_,_,q1,?_⟩;conv=>whnf
  refine(hva _).mono ?_;rintro o T' ⟨rfl,rfl⟩;conv=>whnf
  cases h3:(e != 0) with
  | true=>
    have h3':e≠0:=by simpa using h3
    have hfe:firstE (errsV m.vars)=e:=by rw[hf];exact if_neg h3'
    conv=>whnf
    refine hQ _ _ _ (by simp) ?_
    conv=>whnf
    exact⟨_,_,⟨⟨_,congrArg (fun z=>Out.ret (AV.tu [AV.int .i64 ((i:Int)),AV.int .i64 z])) (show(e:Int)=checkE m conF by unfold checkE;rw[if_neg h2',if_pos (by rw[hfe];exact h3'),hfe])⟩,rfl⟩,hle,AV.leS_refl _ _ _⟩
  | false=>
    have h3':e=0:=by simpa using h3
    conv=>whnf
    exact⟨i+1,⟨rfl,rfl,congrArg _ w1,trivial⟩,⟨_,St.leW_refl _,rfl,hlt,by rw[hf];exact if_pos h3'⟩,by show m.vars.length-(i+1)<m.vars.length-i;omega⟩
 have hlt:i=m.vars.length:=by have:=of_decide_eq_false hlt;omega
 have hfe:¬ firstE (errsV m.vars)≠0:=by
  rw[hf,List.drop_eq_nil_of_le (by simp[errsV,hlt])];simp[firstE]
 clear hf hlt;conv=>whnf
 refine hK _ _ ?_;clear hK hQ K;refine awp_seq2 fun K hK hQ=>?_
 conv=>whnf
 refine⟨_,_,q1,?_⟩;conv=>whnf
 intro _;rw[hlc];conv=>whnf
 cases h4:decide ((m.cons.length:Int) > 64) with
 | true=>
   have h4':64<m.cons.length:=by have:=of_decide_eq_true h4;omega
   conv=>whnf
   refine⟨_,_,q1,?_⟩;conv=>whnf
   intro _;conv=>whnf
   refine hQ _ _ _ (by simp) ?_
   conv=>whnf
   exact⟨_,_,⟨⟨_,congrArg (fun z=>Out.ret (AV.tu [AV.int .i64 (((rowsV m.vars).length:Int)),AV.int .i64 z])) (show(49:Int)=checkE m conF by unfold checkE;rw[if_neg h2',if_neg hfe,if_pos h4'])⟩,rfl⟩,hle,AV.leS_refl _ _ _⟩
 | false=>
 have h4':¬ 64<m.cons.length:=by have:=of_decide_eq_false h4;omega
 conv=>whnf
 refine hK _ _ ?_;clear hK hQ K
 -- the constraints
 refine awp_seq2 fun K hK hQ=>?_
 conv=>whnf
 refine⟨_,_,q1,?_⟩;conv=>whnf
 intro _;rw[hlc];conv=>whnf
 refine⟨⟨Nat,fun i=>[(1,.ref b1 0),(43,.sl .any 10 (rowsC m.cons)),(44,.int .i64 (m.cons.length:Int)),(45,.int .i64 (i:Int))],
  fun i S2=>St.le S1 S2∧i≤m.cons.length∧firstE (m.cons.map conF)=firstE ((m.cons.map conF).drop i),fun i=>m.cons.length-i⟩,
  ⟨0,⟨rfl,⟨rfl,rfl⟩,rfl,rfl,trivial⟩,_,St.leW_refl _,St.le_refl _,Nat.zero_le _,rfl⟩,?_⟩
 rintro(i:Nat) S2 ⟨hl2,hi,hf⟩;have q2:=hl2 _ _ q1;have hle2:=St.le_trans hle hl2;conv=>whnf
 refine split_of (fun hlt=>?_) (fun hlt=>?_)
 ·have hlt:i<m.cons.length:=by have:=of_decide_eq_true hlt;omega
  have w1:IntKind.i64.wrap ((i:Int)+1)=((i+1:Nat):Int):=wrap_nat (by omega)
  have ga:(rowsC m.cons)[(i:Int).toNat]? = some (rowC m.cons[i]):=by simp[rowsC,hlt]
  have hcn:=hcon _ (List.getElem_mem hlt)
  rw[List.drop_eq_getElem_cons (by simp[hlt]),List.getElem_map] at hf
  generalize m.cons[i]=c at *;generalize conF c=e at *;unfold rowC at ga hcn;conv=>whnf
  refine⟨_,⟨by omega,ga⟩,?_⟩
  conv=>whnf
  intro b7 hb7;conv=>whnf
  refine⟨_,_,St.upd_same _ _ _,?_⟩;conv=>whnf
  rw[St.upd_upd];refine⟨_,_,St.upd_same _ _ _,?_⟩;conv=>whnf
  refine⟨_,_,St.up hb7 q2,?_⟩;conv=>whnf
  intro _;rw[hlv];conv=>whnf
  refine(hcn _).mono ?_;rintro o T' ⟨rfl,rfl⟩;conv=>whnf
  cases h3:(e != 0) with
  | true=>
    have h3':e≠0:=by simpa using h3
    have hfe2:firstE (m.cons.map conF)=e:=by rw[hf];exact if_neg h3'
    conv=>whnf
    refine⟨_,_,St.up hb7 q2,?_⟩;conv=>whnf
    intro _;conv=>whnf
    refine hQ _ _ _ (by simp) ?_
    conv=>whnf
    exact⟨_,_,⟨⟨_,congrArg (fun z=>Out.ret (AV.tu [AV.int .i64 (IntKind.i64.wrap (((rowsV m.vars).length:Int)+(i:Int))),AV.int .i64 z])) (show(e:Int)=checkE m conF by unfold checkE;rw[if_neg h2',if_neg hfe,if_neg h4',if_pos (by rw[hfe2];exact h3'),hfe2])⟩,rfl⟩,St.le_upd' hle2 hb7 _,AV.leS_refl _ _ _⟩
  | false=>
    have h3':e=0:=by simpa using h3
    conv=>whnf
    exact⟨i+1,⟨rfl,⟨rfl,rfl⟩,rfl,congrArg _ w1,trivial⟩,⟨_,St.leW_refl _,St.le_upd' hl2 hb7 _,hlt,by rw[hf];exact if_pos h3'⟩,by show m.cons.length-(i+1)<m.cons.length-i;omega⟩
 have hlt:i=m.cons.length:=by have:=of_decide_eq_false hlt;omega
 have hfe2:¬ firstE (m.cons.map conF)≠0:=by
  rw[hf,List.drop_eq_nil_of_le (by simp[hlt])];simp[firstE]
 clear hf hlt;conv=>whnf
 refine hK _ _ ?_;clear hK hQ K;refine awp_seq2 fun K hK hQ=>?_
 conv=>whnf
 refine⟨_,_,q2,?_⟩;conv=>whnf
 refine(hgo _).mono ?_;rintro o T' ⟨rfl,rfl⟩;conv=>whnf
 have hsp:goalV m=checkE m conF:=by unfold checkE;rw[if_neg h2',if_neg hfe,if_neg h4',if_neg hfe2]
 cases h5:(goalV m != 0) with
 | true=>
   conv=>whnf
   refine⟨_,_,q2,?_⟩;conv=>whnf
   intro _;conv=>whnf
   refine⟨_,_,q2,?_⟩;conv=>whnf
   intro _;conv=>whnf
   refine hQ _ _ _ (by simp) ?_
   conv=>whnf
   exact⟨_,_,⟨⟨_,congrArg (fun z=>Out.ret (AV.tu [AV.int .i64 (IntKind.i64.wrap (((rowsV m.vars).length:Int)+((rowsC m.cons).length:Int))),AV.int .i64 z])) hsp⟩,rfl⟩,hle2,AV.leS_refl _ _ _⟩
 | false=>
   have h5':goalV m=0:=by simpa using h5
   conv=>whnf
   refine hK _ _ ?_;clear hK hQ K;conv=>whnf
   exact⟨_,_,⟨⟨_,congrArg (fun z=>Out.ret (AV.tu [AV.int .i64 0,AV.int .i64 z])) (h5'.symm.trans hsp)⟩,rfl⟩,hle2,AV.leS_refl _ _ _⟩
structure SzM (m:ModelV):Prop where
 v:m.vars.length+1≤9223372036854775807
 c:m.cons.length+1≤9223372036854775807
 g:m.goal.length+1≤9223372036854775807
def ConOk(G:Nat→Option (List AV))(m:ModelV)(conF:ConV→Int):Prop:=∀ c∈m.cons,∀ S,Triple P (C G) 53 [.ag (rowC c),.int .i64 (m.vars.length:Int)] S fun o S'=>o=.ret (.int .i64 (conF c))∧S'=S
theorem right_ok{m:ModelV}(hz:SzM m){conF:ConV→Int}(hcon:ConOk G m conF)(S:St):Triple P (C G) 31 [.ag (rowM m)] S fun o S'=>o=.ret (.bool (checkE m conF == 0))∧S'=S:=by
 have hch:=fun S=>Check_ok (G:=G) m hz.g hz.v hz.c hcon S
 unfold rowM at hch ⊢;refine triple_of_awp (hT G) hm Tryz.func31 rfl (by decide +kernel) rfl (by decide +kernel) (by show 1≤_;decide +kernel) rfl ?_
 conv=>whnf
 intro b1 hb1;conv=>whnf
 refine⟨_,_,St.upd_same _ _ _,?_⟩;conv=>whnf
 refine(hch _).mono ?_;rintro o T ⟨⟨i,rfl⟩,rfl⟩;conv=>whnf
 exact⟨_,_,⟨rfl,rfl⟩,St.le_upd' (St.le_refl _) hb1 _,AV.leS_refl _ _ _⟩
theorem firstE_zero:∀ {l:List Int},firstE l=0→∀ e∈l,e=0
 | [],_,e,he=>by cases he
 | x::l,h,e,he=>by
   unfold firstE at h
   by_cases hx:x=0
   ·rw[if_pos hx] at h
    rcases List.mem_cons.1 he with rfl | he
    ·exact hx
    ·exact firstE_zero h e he
   ·rw[if_neg hx] at h;exact absurd h hx
structure VarOk (v:VarV):Prop where
 lo:-1000000000≤v.2.1
 up:v.2.2≤1000000000
 le:v.2.1≤v.2.2
 dom:v.2.2-v.2.1<64
theorem varOk_of{l:List VarV}{i:Nat}{v:VarV}(h:variableV l i v=0):VarOk v:=by
 unfold variableV at h
 by_cases h1:(!nameV v.1 || (l.take i).any (fun w=>decide (w.1=v.1)))=true
 ·rw[if_pos h1] at h;exact absurd h (by decide)
 rw[if_neg h1] at h
 by_cases h2:(!withinV v.2.1 1000000000 || !withinV v.2.2 1000000000 || decide (v.2.1 > v.2.2) || decide (IntKind.i64.wrap (v.2.2-v.2.1) ≥ 64))=true
 ·rw[if_pos h2] at h;exact absurd h (by decide)
 simp only[Bool.or_eq_true,Bool.not_eq_true',not_or,Bool.not_eq_false,decide_eq_true_eq,withinV,Bool.and_eq_true] at h2;obtain⟨⟨⟨⟨a1,a2⟩,b1,b2⟩,c⟩,d⟩:=h2;rw[wrap_i64 (by omega) (by omega)] at d
 exact⟨a1,b2,by omega,by omega⟩
theorem right_vars{m:ModelV}{conF:ConV→Int}(h:checkE m conF=0):(∀ v∈m.vars,VarOk v)∧m.vars≠[]∧m.vars.length≤32:=by
 unfold checkE at h
 by_cases h1:m.vars.length=0∨32<m.vars.length
 ·rw[if_pos h1] at h;exact absurd h (by decide)
 rw[if_neg h1] at h
 by_cases h2:firstE (errsV m.vars)≠0
 ·rw[if_pos h2] at h;exact absurd h h2
 have h3:=firstE_zero (Classical.not_not.1 h2)
 refine⟨fun v hv=>?_,fun e=>h1 (.inl (by rw[e];rfl)),by omega⟩
 obtain⟨i,hi,rfl⟩:=List.mem_iff_getElem.1 hv;refine varOk_of (l:=m.vars) (i:=i) (h3 _ ?_);unfold errsV;rw[List.mem_map];exact⟨(m.vars[i],i),by rw[List.mem_zipIdx_iff_getElem?];simp[hi],rfl⟩
def prodGo(most:Int):List VarV→Int→Int×Bool
 | [],n=>(n,true)
 | v::r,n=>if n > most.tdiv (v.2.2-v.2.1+1) then (0,false) else prodGo most r (n*(v.2.2-v.2.1+1))
def productV(m:ModelV)(conF:ConV→Int)(most:Int):Int×Bool:=if checkE m conF=0 then prodGo most m.vars 1 else (0,false)
theorem Product_ok{m:ModelV}(hz:SzM m){conF:ConV→Int}(hcon:ConOk G m conF)(most:Int)(h1:1≤most)(h2:most≤1000000)(S:St) :
 Triple P (C G) 20 [.ag (rowM m),.int .i64 most] S fun o S'=>o=.ret (.tu [.int .i64 (productV m conF most).1,.bool (productV m conF most).2])∧S'=S:=by
 have hri:=fun S=>right_ok (G:=G) hz hcon S
 have hlv:=rowsV_len m.vars
 unfold productV;unfold rowM at hri ⊢;have hvo:=fun h=>right_vars (m:=m) (conF:=conF) h
 generalize checkE m conF=e at *;have hres1:¬ e=0→(if e=0 then prodGo most m.vars 1 else ((0,false):Int×Bool))=(0,false):=fun h=>if_neg h
 have hres2:e=0→(if e=0 then prodGo most m.vars 1 else ((0,false):Int×Bool))=prodGo most m.vars 1:=fun h=>if_pos h
 generalize (if e=0 then prodGo most m.vars 1 else ((0,false):Int×Bool))=res at *;refine triple_of_awp (hT G) hm Tryz.func20 rfl (by decide +kernel) rfl (by decide +kernel) (by show 2≤_;decide +kernel) rfl ?_
 refine awp_seq2 fun K hK hQ=>?_
 conv=>whnf
 intro b1 hb1;conv=>whnf
 refine hK _ _ ?_;clear hK hQ K;have q1:=St.upd_same S b1 (.obj 26 [.sl .any 3 (rowsV m.vars),.sl .any 10 (rowsC m.cons),.bool m.hasGoal,.sl .any 2 (rowsTm m.goal)]);have hle:=St.le_upd' (St.le_refl S) hb1 (.obj 26 [.sl .any 3 (rowsV m.vars),.sl .any 10 (rowsC m.cons),.bool m.hasGoal,.sl .any 2 (rowsTm m.goal)]);generalize S.upd b1 (.obj 26 [.sl .any 3 (rowsV m.vars),.sl .any 10 (rowsC m.cons),.bool m.hasGoal,.sl .any 2 (rowsTm m.goal)])=T at *;refine awp_seq2 fun K hK hQ=>?_
 conv=>whnf
 refine⟨_,_,q1,?_⟩;conv=>whnf
 refine(hri _).mono ?_;rintro o T' ⟨rfl,rfl⟩
 cases he:(e == 0) with
 | false=>
   have he':¬ e=0:=by simpa using he
   conv=>whnf
   refine hQ _ _ _ (by simp) ?_
   conv=>whnf
   exact⟨_,_,⟨by rw[hres1 he'],rfl⟩,hle,AV.leS_refl _ _ _⟩
 | true=>
 have he':e=0:=by simpa using he
 have hres2:=hres2 he'
 clear hres1;obtain⟨hvo,_,hv32⟩:=hvo he';have hmo:decide (most<1)=false:=decide_eq_false (by omega)
 conv=>whnf
 rw[hmo];conv=>whnf
 refine hK _ _ ?_;clear hK hQ K;refine awp_seq2 fun K hK hQ=>?_
 conv=>whnf
 refine hK _ _ ?_;clear hK hQ K;refine awp_seq2 fun K hK hQ=>?_
 conv=>whnf
 refine⟨_,_,q1,?_⟩;conv=>whnf
 intro _;rw[hlv];conv=>whnf
 refine⟨⟨Nat×Int,fun z=>[(1,.int .i64 most),(6,.int .i64 z.2),(18,.sl .any 3 (rowsV m.vars)),(19,.int .i64 (m.vars.length:Int)),(20,.int .i64 (z.1:Int))],
  fun z S1=>St.le T' S1∧z.1≤m.vars.length∧(1≤z.2∧z.2≤most)∧prodGo most m.vars 1=prodGo most (m.vars.drop z.1) z.2,fun z=>m.vars.length-z.1⟩,
  ⟨(0,1),⟨rfl,rfl,⟨rfl,rfl⟩,rfl,rfl,trivial⟩,_,St.leW_refl _,St.le_refl _,Nat.zero_le _,⟨by decide,h1⟩,rfl⟩,?_⟩
 rintro⟨i,n⟩ S1 ⟨hl1,hi,⟨hn1,hn2⟩,hp⟩;dsimp only at hi hn1 hn2 hp;conv=>whnf
 refine split_of (fun hlt=>?_) (fun hlt=>?_)
 ·have hlt:i<m.vars.length:=by have:=of_decide_eq_true hlt;omega
  have w1:IntKind.i64.wrap ((i:Int)+1)=((i+1:Nat):Int):=wrap_nat (by omega)
  have ga:(rowsV m.vars)[(i:Int).toNat]? = some (rowV m.vars[i]):=by simp[rowsV,hlt]
  obtain⟨v1,v2,v3,v4⟩:=hvo _ (List.getElem_mem hlt);rw[List.drop_eq_getElem_cons hlt,show ∀ (v:VarV) (r:List VarV) (n:Int),prodGo most (v::r) n=if n > most.tdiv (v.2.2-v.2.1+1) then (0,false) else prodGo most r (n*(v.2.2-v.2.1+1)) from fun _ _ _=>rfl] at hp
  generalize m.vars[i]=v at *;obtain⟨nm,lo,up⟩:=v;dsimp only at v1 v2 v3 v4 hp;unfold rowV at ga;dsimp only at ga;have wa:IntKind.i64.wrap (up-lo)=up-lo:=wrap_i64 (by omega) (by omega)
  have wb:IntKind.i64.wrap (up-lo+1)=up-lo+1:=wrap_i64 (by omega) (by omega)
  conv=>whnf
  refine⟨_,⟨by omega,ga⟩,?_⟩
  conv=>whnf
  intro b8 hb8;conv=>whnf
  refine⟨_,_,St.upd_same _ _ _,?_⟩;conv=>whnf
  rw[St.upd_upd];refine⟨_,_,St.upd_same _ _ _,?_⟩;conv=>whnf
  refine⟨_,_,St.upd_same _ _ _,?_⟩;conv=>whnf
  rw[wa,wb];generalize hs:up-lo+1=s at *;have hs1:1≤s:=by omega
  have hdv:most.tdiv s=most / s:=Int.tdiv_eq_ediv_of_nonneg (by omega)
  have hd0:0≤most / s:=Int.ediv_nonneg (by omega) (by omega)
  have hd1:most / s≤most:=Int.ediv_le_self _ (by omega)
  have wq:IntKind.i64.wrap (most.tdiv s)=most.tdiv s:=by rw[hdv];exact wrap_i64 (by omega) (by omega)
  conv=>whnf
  refine⟨by omega,?_⟩
  conv=>whnf
  rw[wq]
  cases hgt:decide (n > most.tdiv s) with
  | true=>
    have hp':prodGo most m.vars 1=(0,false):=by rw[hp,if_pos (of_decide_eq_true hgt)]
    conv=>whnf
    refine hQ _ _ _ (by simp) ?_
    conv=>whnf
    exact⟨_,_,⟨by rw[hres2,hp'],rfl⟩,St.le_trans hle (St.le_upd' hl1 hb8 _),AV.leS_refl _ _ _⟩
  | false=>
    have hng:=of_decide_eq_false hgt
    have hns:n*s≤most:=(Int.le_ediv_iff_mul_le (by omega)).1 (by rw[hdv] at hng;omega)
    have hn0:1≤n*s:=Int.le_trans hn1 (by have:=Int.mul_le_mul_of_nonneg_left hs1 (show 0≤n by omega);omega)
    have wm:IntKind.i64.wrap (n*s)=n*s:=wrap_i64 (by omega) (by omega)
    rw[if_neg hng] at hp;conv=>whnf
    rw[wm];exact⟨(i+1,n*s),⟨rfl,rfl,⟨rfl,rfl⟩,rfl,congrArg _ w1,trivial⟩,⟨_,St.leW_refl _,St.le_upd' hl1 hb8 _,hlt,⟨hn0,hns⟩,hp⟩,by show m.vars.length-(i+1)<m.vars.length-i;omega⟩
 ·have hlt:i=m.vars.length:=by have:=of_decide_eq_false hlt;omega
  have hp':prodGo most m.vars 1=(n,true):=by rw[hp,List.drop_eq_nil_of_le (by omega)];rfl
  conv=>whnf
  refine hK _ _ ?_;clear hK hQ K;conv=>whnf
  exact⟨_,_,⟨by rw[hres2,hp'],rfl⟩,St.le_trans hle hl1,AV.leS_refl _ _ _⟩
def HoldsOk(G:Nat→Option (List AV))(m:ModelV)(values:List Int)(holdsF:ConV→Bool):Prop:=∀ c∈m.cons,∀ S,Triple P (C G) 34 [.ag (rowC c),.sl .any 1 (rowsI values)] S fun o S'=>o=.ret (.bool (holdsF c))∧S'=S
def solutionV(m:ModelV)(conF:ConV→Int)(holdsF:ConV→Bool)(values:List Int):Bool:=checkE m conF == 0 && (inB m.vars values && m.cons.all holdsF)
theorem inB_len:∀ {l:List VarV} {z:List Int},inB l z=true→z.length=l.length
 | [],[],_=>rfl
 | v::r,x::xs,h=>by
   simp only[inB,Bool.and_eq_true] at h
   simp[inB_len h.2.2]
 | [],_::_,h=>by cases h
 | _::_,[],h=>by cases h
theorem inB_at:∀ {l:List VarV} {z:List Int},z.length=l.length→∀ (i:Nat) (h:i<l.length) (h':i<z.length),inB (l.drop i) (z.drop i)=(decide (l[i].2.1≤z[i]) && (decide (z[i]≤l[i].2.2) && inB (l.drop (i+1)) (z.drop (i+1)))):=fun hl i h h'=>by
 rw[List.drop_eq_getElem_cons h,List.drop_eq_getElem_cons h'];rfl
theorem solution1_ok{S:St}{c:ConV}{values:List Int}{b:Bool}(h:∀ S,Triple P (C G) 34 [.ag (rowC c),.sl .any 1 (rowsI values)] S fun o S'=>o=.ret (.bool b)∧S'=S){b3:Nat}(q:S b3=some (.obj 27 [.sl .any 1 (rowsI values)])) :
 Triple P (C G) 33 [.ag (rowC c),.ref b3 0] S fun o S'=>o=.ret (.bool (!b))∧S'=S:=by
 unfold rowC at h ⊢;refine triple_of_awp (hT G) hm Tryz.func33 rfl (by decide +kernel) rfl (by decide +kernel) (by show 2≤_;decide +kernel) rfl ?_
 conv=>whnf
 intro b2 hb2;conv=>whnf
 refine⟨_,_,St.upd_same _ _ _,?_⟩;conv=>whnf
 refine⟨_,_,St.up hb2 q,?_⟩;conv=>whnf
 refine(h _).mono ?_;rintro o T ⟨rfl,rfl⟩;conv=>whnf
 exact⟨_,_,⟨rfl,rfl⟩,St.le_upd' (St.le_refl _) hb2 _,AV.leS_refl _ _ _⟩
theorem Solution_ok{m:ModelV}(hz:SzM m){conF:ConV→Int}(hcon:ConOk G m conF)(values:List Int)(hvl:values.length+1≤9223372036854775807){holdsF:ConV→Bool}(hh:checkE m conF=0→values.length=m.vars.length→HoldsOk G m values holdsF)(S:St) :
 Triple P (C G) 15 [.ag (rowM m),.sl .any 1 (rowsI values)] S fun o S'=>o=.ret (.bool (solutionV m conF holdsF values))∧S'=S:=by
 have hri:=fun S=>right_ok (G:=G) hz hcon S
 have hlv:=rowsV_len m.vars
 have hli:=rowsI_len values
 have hcf0:(checkE m conF == 0)=true→values.length=m.vars.length→∀ (S:St) (b:Nat),S b=some (.obj 27 [.sl .any 1 (rowsI values)])→Triple P (C G) 32 [.sl .any 10 (rowsC m.cons),.fn (.func 33) [] [.ref b 0]] S fun o S'=>o=.ret (.bool (m.cons.any fun c=>!holdsF c))∧S'=S:=
  fun he hl S b h=>ContainsC_ok hz.c fun c hc=>solution1_ok (hh (by simpa using he) hl c hc) h
 have hsp:∀ b,(checkE m conF == 0)=b→(b=false→solutionV m conF holdsF values=false)∧(b=true→solutionV m conF holdsF values=(inB m.vars values && !(m.cons.any fun c=>!holdsF c))):=fun b hb=>
  ⟨fun h=>by unfold solutionV;rw[hb,h];rfl,fun h=>by
   unfold solutionV;rw[hb,h,Bool.true_and]
   congr 1
   rw[List.all_eq_not_any_not]⟩
 generalize m.cons.any (fun c=>!holdsF c)=anyN at *
 generalize solutionV m conF holdsF values=res at *;unfold rowM at hri ⊢;generalize (checkE m conF == 0)=e at *;obtain⟨hsp0,hsp1⟩:=hsp e rfl;clear hsp;refine triple_of_awp (hT G) hm Tryz.func15 rfl (by decide +kernel) rfl (by decide +kernel) (by show 2≤_;decide +kernel) rfl ?_
 refine awp_seq2 fun K hK hQ=>?_
 conv=>whnf
 intro b2 hb2;conv=>whnf
 intro b3 hb3;conv=>whnf
 refine hK _ _ ?_;clear hK hQ K;have q3:=St.upd_same (S.upd b2 (.obj 26 [.sl .any 3 (rowsV m.vars),.sl .any 10 (rowsC m.cons),.bool m.hasGoal,.sl .any 2 (rowsTm m.goal)])) b3 (.obj 27 [.sl .any 1 (rowsI values)]);have q2:=St.up (p:=.obj 27 [.sl .any 1 (rowsI values)]) hb3 (St.upd_same S b2 (.obj 26 [.sl .any 3 (rowsV m.vars),.sl .any 10 (rowsC m.cons),.bool m.hasGoal,.sl .any 2 (rowsTm m.goal)]));have hle:=St.le_upd' (St.le_upd' (St.le_refl S) hb2 (.obj 26 [.sl .any 3 (rowsV m.vars),.sl .any 10 (rowsC m.cons),.bool m.hasGoal,.sl .any 2 (rowsTm m.goal)])) hb3 (.obj 27 [.sl .any 1 (rowsI values)]);generalize (S.upd b2 (.obj 26 [.sl .any 3 (rowsV m.vars),.sl .any 10 (rowsC m.cons),.bool m.hasGoal,.sl .any 2 (rowsTm m.goal)])).upd b3 (.obj 27 [.sl .any 1 (rowsI values)])=T at *;refine awp_seq2 fun K hK hQ=>?_
 conv=>whnf
 refine⟨_,_,q2,?_⟩;conv=>whnf
 refine(hri _).mono ?_;rintro o T' ⟨rfl,rfl⟩
 cases e with
 | false=>
   conv=>whnf
   refine hQ _ _ _ (by simp) ?_
   conv=>whnf
   exact⟨_,_,⟨congrArg (fun z=>Out.ret (AV.bool z)) (hsp0 rfl).symm,rfl⟩,hle,AV.leS_refl _ _ _⟩
 | true=>
 have hsp1:=hsp1 rfl
 clear hsp0;conv=>whnf
 refine⟨_,_,q3,?_⟩;conv=>whnf
 intro _;rw[hli];conv=>whnf
 refine⟨_,_,q2,?_⟩;conv=>whnf
 intro _;rw[hlv];conv=>whnf
 cases hl:((values.length:Int) != (m.vars.length:Int)) with
 | true=>
   have hl':values.length≠m.vars.length:=fun h=>by rw[h] at hl;simp at hl
   have hnb:inB m.vars values=false:=by
    cases h:inB m.vars values with
    | false=>rfl
    | true=>exact absurd (inB_len h) hl'
   conv=>whnf
   refine hQ _ _ _ (by simp) ?_
   conv=>whnf
   exact⟨_,_,⟨congrArg (fun z=>Out.ret (AV.bool z)) ((show res=false by rw[hsp1,hnb];rfl)).symm,rfl⟩,hle,AV.leS_refl _ _ _⟩
 | false=>
 have hl':values.length=m.vars.length:=by simp at hl;omega
 have hcf:=hcf0 rfl hl'
 conv=>whnf
 refine hK _ _ ?_;clear hK hQ K;refine awp_seq2 fun K hK hQ=>?_
 conv=>whnf
 refine⟨_,_,q2,?_⟩;conv=>whnf
 intro _;rw[hlv];conv=>whnf
 refine⟨⟨Nat,fun i=>[(2,.ref b2 0),(3,.ref b3 0),(19,.sl .any 3 (rowsV m.vars)),(20,.int .i64 (m.vars.length:Int)),(21,.int .i64 (i:Int))],
  fun i S1=>St.le T' S1∧i≤m.vars.length∧inB m.vars values=inB (m.vars.drop i) (values.drop i),fun i=>m.vars.length-i⟩,
  ⟨0,⟨rfl,rfl,⟨rfl,rfl⟩,rfl,rfl,trivial⟩,_,St.leW_refl _,St.le_refl _,Nat.zero_le _,rfl⟩,?_⟩
 rintro(i:Nat) S1 ⟨hl1,hi,hp⟩;have p3:=hl1 _ _ q3;conv=>whnf
 refine split_of (fun hlt=>?_) (fun hlt=>?_)
 ·have hlt:i<m.vars.length:=by have:=of_decide_eq_true hlt;omega
  have hlt':i<values.length:=by omega
  have w1:IntKind.i64.wrap ((i:Int)+1)=((i+1:Nat):Int):=wrap_nat (by omega)
  have ga:(rowsV m.vars)[(i:Int).toNat]? = some (rowV m.vars[i]):=by simp[rowsV,hlt]
  have gb:(rowsI values)[(i:Int).toNat]? = some [.int .i64 values[i]]:=by simp[rowsI,hlt']
  rw[inB_at hl' i hlt hlt'] at hp;generalize m.vars[i]=v at *;generalize values[i]=x at *;obtain⟨nm,lo,up⟩:=v;dsimp only at hp;unfold rowV at ga;dsimp only at ga;conv=>whnf
  refine⟨_,⟨by omega,ga⟩,?_⟩
  conv=>whnf
  intro b6 hb6;conv=>whnf
  refine⟨_,_,St.upd_same _ _ _,?_⟩;conv=>whnf
  rw[St.upd_upd];refine⟨[],(.free 0 (.free 1 (.free 2 (.free 3 (.free 4 (.free 5 (.free 6 (.free 7 (.free 8 (.free 9 (.free 10 (.free 11 (.free 12 (.free 13 (.free 14 (.free 15 .done)))))))))))))))),_,by decide +kernel,?_,fun _ _ h=>⟨_,.inl rfl,h⟩⟩
  conv=>whnf
  refine⟨_,_,St.up hb6 p3,?_⟩;conv=>whnf
  refine⟨_,⟨by omega,gb⟩,?_⟩
  conv=>whnf
  refine⟨_,_,St.upd_same _ _ _,?_⟩;conv=>whnf
  have hle2:=St.le_trans hle (St.le_upd' hl1 hb6 (.obj 49 [.str nm,.int .i64 lo,.int .i64 up]))
  cases h1:decide (x<lo) with
  | true=>
    have h1':decide (lo≤x)=false:=by have:=of_decide_eq_true h1;exact decide_eq_false (by omega)
    rw[h1',Bool.false_and] at hp;conv=>whnf
    refine hQ _ _ _ (by simp) ?_
    conv=>whnf
    exact⟨_,_,⟨congrArg (fun z=>Out.ret (AV.bool z)) ((show res=false by rw[hsp1,hp];rfl)).symm,rfl⟩,hle2,AV.leS_refl _ _ _⟩
  | false=>
    have h1':decide (lo≤x)=true:=by have:=of_decide_eq_false h1;exact decide_eq_true (by omega)
    rw[h1',Bool.true_and] at hp;conv=>whnf
    refine⟨_,_,St.up hb6 p3,?_⟩;conv=>whnf
    refine⟨_,⟨by omega,gb⟩,?_⟩
    conv=>whnf
    refine⟨_,_,St.upd_same _ _ _,?_⟩;conv=>whnf
    cases h2:decide (x > up) with
    | true=>
      have h2':decide (x≤up)=false:=by have:=of_decide_eq_true h2;exact decide_eq_false (by omega)
      rw[h2',Bool.false_and] at hp;conv=>whnf
      refine hQ _ _ _ (by simp) ?_
      conv=>whnf
      exact⟨_,_,⟨congrArg (fun z=>Out.ret (AV.bool z)) ((show res=false by rw[hsp1,hp];rfl)).symm,rfl⟩,hle2,AV.leS_refl _ _ _⟩
    | false=>
      have h2':decide (x≤up)=true:=by have:=of_decide_eq_false h2;exact decide_eq_true (by omega)
      rw[h2',Bool.true_and] at hp;conv=>whnf
      exact⟨i+1,⟨rfl,rfl,⟨rfl,rfl⟩,rfl,congrArg _ w1,trivial⟩,⟨_,St.leW_refl _,St.le_upd' hl1 hb6 _,hlt,hp⟩,by show m.vars.length-(i+1)<m.vars.length-i;omega⟩
 ·have hlt:i=m.vars.length:=by have:=of_decide_eq_false hlt;omega
  have hp':inB m.vars values=true:=by rw[hp,List.drop_eq_nil_of_le (by omega),List.drop_eq_nil_of_le (by omega)];rfl
  conv=>whnf
  refine hK _ _ ?_;clear hK hQ K;conv=>whnf
  refine⟨_,_,hl1 _ _ q2,?_⟩;conv=>whnf
  refine(hcf _ _ p3).mono ?_;rintro o T2 ⟨rfl,rfl⟩;conv=>whnf
  exact⟨_,_,⟨congrArg (fun z=>Out.ret (AV.bool z)) (by rw[hsp1,hp'];rfl),rfl⟩,St.le_trans hle hl1,AV.leS_refl _ _ _⟩
def greatV(l:List Int):Bool:=l.any fun x=>!withinV x 1000000000
theorem great1_ok(n:Int)(S:St):Triple P (C G) 84 [.int .i64 n] S fun o S'=>o=.ret (.bool (!withinV n 1000000000))∧S'=S:=by
 have hw:=within_ok (G:=G) n 1000000000 (by decide) (by decide) S
 refine triple_of_awp (hT G) hm Tryz.func84 rfl (by decide +kernel) rfl (by decide +kernel) (by show 1≤_;decide +kernel) rfl ?_
 conv=>whnf
 refine hw.mono ?_;rintro o T ⟨rfl,rfl⟩;conv=>whnf
 exact⟨_,_,⟨rfl,rfl⟩,St.le_refl _,AV.leS_refl _ _ _⟩
theorem great_ok(l:List Int)(hl:l.length+1≤9223372036854775807)(S:St):Triple P (C G) 56 [.sl .any 1 (rowsI l)] S fun o S'=>o=.ret (.bool (greatV l))∧S'=S:=by
 have hc:=ContainsI_ok (G:=G) (S:=S) (g:=84) (caps:=[]) hl (p:=fun x=>!withinV x 1000000000) fun x _=>great1_ok x S
 unfold greatV;refine triple_of_awp (hT G) hm Tryz.func56 rfl (by decide +kernel) rfl (by decide +kernel) (by show 1≤_;decide +kernel) rfl ?_
 conv=>whnf
 refine hc.mono ?_;rintro o T ⟨rfl,rfl⟩;conv=>whnf
 exact⟨_,_,⟨rfl,rfl⟩,St.le_refl _,AV.leS_refl _ _ _⟩
theorem sized_ok(l:List Int)(hl:l.length+1≤9223372036854775807)(S:St):Triple P (C G) 35 [.sl .any 1 (rowsI l)] S fun o S'=>o=.ret (.bool (!greatV l))∧S'=S:=by
 have hc:=great_ok (G:=G) l hl S
 refine triple_of_awp (hT G) hm Tryz.func35 rfl (by decide +kernel) rfl (by decide +kernel) (by show 1≤_;decide +kernel) rfl ?_
 conv=>whnf
 refine hc.mono ?_;rintro o T ⟨rfl,rfl⟩;conv=>whnf
 exact⟨_,_,⟨rfl,rfl⟩,St.le_refl _,AV.leS_refl _ _ _⟩
def sumV(f:Int→Int)(l:List TermV):Int:=l.foldl (fun n t=>IntKind.i64.wrap (n+IntKind.i64.wrap (t.1*f t.2))) 0
theorem sum_ok(l:List TermV)(hl:l.length+1≤9223372036854775807){g:FuncId}{bc:Nat}{f:Int→Int}{S:St}(hf:∀ t∈l,∀ S1,St.le S S1→Triple P (C G) g [.int .i64 t.2,.ref bc 0] S1 fun o S'=>o=.ret (.int .i64 (f t.2))∧S'=S1) :
 Triple P (C G) 36 [.sl .any 2 (rowsTm l),.fn (.func g) [] [.ref bc 0]] S fun o S'=>o=.ret (.int .i64 (sumV f l))∧S'=S:=by
 have hlt2:=rowsTm_len l
 refine triple_of_awp (hT G) hm Tryz.func36 rfl (by decide +kernel) rfl (by decide +kernel) (by show 2≤_;decide +kernel) rfl ?_
 refine awp_seq2 fun K hK hQ=>?_
 conv=>whnf
 refine hK _ _ ?_;clear hK hQ K;refine awp_seq2 fun K hK hQ=>?_
 conv=>whnf
 refine hK _ _ ?_;clear hK hQ K;refine awp_seq2 fun K hK hQ=>?_
 conv=>whnf
 intro _;rw[hlt2];conv=>whnf
 refine⟨⟨Nat,fun i=>[(1,.fn (.func g) [] [.ref bc 0]),(5,.int .i64 (sumV f (l.take i))),(8,.sl .any 2 (rowsTm l)),(9,.int .i64 (l.length:Int)),(10,.int .i64 (i:Int))],
  fun i S1=>St.le S S1∧i≤l.length,fun i=>l.length-i⟩,
  ⟨0,⟨rfl,rfl,⟨rfl,rfl⟩,rfl,rfl,trivial⟩,_,St.leW_refl _,St.le_refl _,Nat.zero_le _⟩,?_⟩
 rintro(i:Nat) S1 ⟨hle,hi⟩;conv=>whnf
 refine split_of (fun hlt=>?_) (fun hlt=>?_)
 ·have hlt:i<l.length:=by have:=of_decide_eq_true hlt;omega
  have w1:IntKind.i64.wrap ((i:Int)+1)=((i+1:Nat):Int):=wrap_nat (by omega)
  have ga:(rowsTm l)[(i:Int).toNat]? = some [.int .i64 l[i].1,.int .i64 l[i].2]:=by simp[rowsTm,hlt]
  have hst:sumV f (l.take (i+1))=IntKind.i64.wrap (sumV f (l.take i)+IntKind.i64.wrap (l[i].1*f l[i].2)):=by
   unfold sumV;rw[List.take_add_one,List.getElem?_eq_getElem hlt,Option.toList_some,List.foldl_append];rfl
  have hft:=hf _ (List.getElem_mem hlt)
  generalize l[i]=t at *;obtain⟨c,x⟩:=t;dsimp only at ga hst hft;conv=>whnf
  refine⟨_,⟨by omega,ga⟩,?_⟩
  conv=>whnf
  intro b7 hb7;conv=>whnf
  refine⟨_,_,St.upd_same _ _ _,?_⟩;conv=>whnf
  rw[St.upd_upd];refine⟨[6],(.free 0 (.free 1 (.free 2 (.free 3 (.free 4 (.free 5 (.free 6 (.free 7 (.free 8 (.free 9 .done)))))))))),_,by decide +kernel,?_,fun _ _ h=>⟨_,.inl rfl,h⟩⟩
  conv=>whnf
  refine⟨_,_,St.upd_same _ _ _,?_⟩;conv=>whnf
  refine⟨_,_,St.upd_same _ _ _,?_⟩;conv=>whnf
  refine⟨.int .i64 (f x),?_,?_⟩
  ·conv=>whnf
   refine(hft _ (St.le_upd' hle hb7 _)).mono ?_;rintro o T2 ⟨rfl,rfl⟩;exact⟨rfl,rfl⟩
  conv=>whnf
  exact⟨i+1,⟨rfl,congrArg _ hst.symm,⟨rfl,rfl⟩,rfl,congrArg _ w1,trivial⟩,⟨_,St.leW_refl _,St.le_upd' hle hb7 _,hlt⟩,by show l.length-(i+1)<l.length-i;omega⟩
 ·have hlt:i=l.length:=by have:=of_decide_eq_false hlt;omega
  subst hlt;conv=>whnf
  refine hK _ _ ?_;clear hK hQ K;conv=>whnf
  exact⟨_,_,⟨by rw[List.take_length],rfl⟩,hle,AV.leS_refl _ _ _⟩
theorem sumI_ok(l:List TermV)(hl:l.length+1≤9223372036854775807){g:FuncId}{cp:List AV}{f:Int→Int}{S:St}(hf:∀ t∈l,∀ S1,St.le S S1→Triple P (C G) g [.int .i64 t.2,.imm cp] S1 fun o S'=>o=.ret (.int .i64 (f t.2))∧S'=S1) :
 Triple P (C G) 36 [.sl .any 2 (rowsTm l),.fn (.func g) [] [.imm cp]] S fun o S'=>o=.ret (.int .i64 (sumV f l))∧S'=S:=by
 have hlt2:=rowsTm_len l
 refine triple_of_awp (hT G) hm Tryz.func36 rfl (by decide +kernel) rfl (by decide +kernel) (by show 2≤_;decide +kernel) rfl ?_
 refine awp_seq2 fun K hK hQ=>?_
 conv=>whnf
 refine hK _ _ ?_;clear hK hQ K;refine awp_seq2 fun K hK hQ=>?_
 conv=>whnf
 refine hK _ _ ?_;clear hK hQ K;refine awp_seq2 fun K hK hQ=>?_
 conv=>whnf
 intro _;rw[hlt2];conv=>whnf
 refine⟨⟨Nat,fun i=>[(1,.fn (.func g) [] [.imm cp]),(5,.int .i64 (sumV f (l.take i))),(8,.sl .any 2 (rowsTm l)),(9,.int .i64 (l.length:Int)),(10,.int .i64 (i:Int))],
  fun i S1=>St.le S S1∧i≤l.length,fun i=>l.length-i⟩,
  ⟨0,⟨rfl,rfl,⟨rfl,rfl⟩,rfl,rfl,trivial⟩,_,St.leW_refl _,St.le_refl _,Nat.zero_le _⟩,?_⟩
 rintro(i:Nat) S1 ⟨hle,hi⟩;conv=>whnf
 refine split_of (fun hlt=>?_) (fun hlt=>?_)
 ·have hlt:i<l.length:=by have:=of_decide_eq_true hlt;omega
  have w1:IntKind.i64.wrap ((i:Int)+1)=((i+1:Nat):Int):=wrap_nat (by omega)
  have ga:(rowsTm l)[(i:Int).toNat]? = some [.int .i64 l[i].1,.int .i64 l[i].2]:=by simp[rowsTm,hlt]
  have hst:sumV f (l.take (i+1))=IntKind.i64.wrap (sumV f (l.take i)+IntKind.i64.wrap (l[i].1*f l[i].2)):=by
   unfold sumV;rw[List.take_add_one,List.getElem?_eq_getElem hlt,Option.toList_some,List.foldl_append];rfl
  have hft:=hf _ (List.getElem_mem hlt)
  generalize l[i]=t at *;obtain⟨c,x⟩:=t;dsimp only at ga hst hft;conv=>whnf
  refine⟨_,⟨by omega,ga⟩,?_⟩
  conv=>whnf
  intro b7 hb7;conv=>whnf
  refine⟨_,_,St.upd_same _ _ _,?_⟩;conv=>whnf
  rw[St.upd_upd];refine⟨[6],(.free 0 (.free 1 (.free 2 (.free 3 (.free 4 (.free 5 (.free 6 (.free 7 (.free 8 (.free 9 .done)))))))))),_,by decide +kernel,?_,fun _ _ h=>⟨_,.inl rfl,h⟩⟩
  conv=>whnf
  refine⟨_,_,St.upd_same _ _ _,?_⟩;conv=>whnf
  refine⟨_,_,St.upd_same _ _ _,?_⟩;conv=>whnf
  refine⟨.int .i64 (f x),?_,?_⟩
  ·conv=>whnf
   refine(hft _ (St.le_upd' hle hb7 _)).mono ?_;rintro o T2 ⟨rfl,rfl⟩;exact⟨rfl,rfl⟩
  conv=>whnf
  exact⟨i+1,⟨rfl,congrArg _ hst.symm,⟨rfl,rfl⟩,rfl,congrArg _ w1,trivial⟩,⟨_,St.leW_refl _,St.le_upd' hle hb7 _,hlt⟩,by show l.length-(i+1)<l.length-i;omega⟩
 ·have hlt:i=l.length:=by have:=of_decide_eq_false hlt;omega
  subst hlt;conv=>whnf
  refine hK _ _ ?_;clear hK hQ K;conv=>whnf
  exact⟨_,_,⟨by rw[List.take_length],rfl⟩,hle,AV.leS_refl _ _ _⟩
def at0(values:List Int)(x:Int):Int:=values.getD x.toNat 0
theorem worth1_ok{values:List Int}{x:Int}(h0:0≤x)(h1:x<values.length){S:St}{b:Nat}(hb:S b=some (.obj 27 [.sl .any 1 (rowsI values)])):Triple P (C G) 37 [.int .i64 x,.ref b 0] S fun o S'=>o=.ret (.int .i64 (at0 values x))∧S'=S:=by
 have hx:x.toNat<values.length:=by omega
 have gb:(rowsI values)[x.toNat]? = some [.int .i64 (at0 values x)]:=by simp[rowsI,at0,hx]
 refine triple_of_awp (hT G) hm Tryz.func37 rfl (by decide +kernel) rfl (by decide +kernel) (by show 2≤_;decide +kernel) rfl ?_
 conv=>whnf
 refine⟨_,_,hb,?_⟩;conv=>whnf
 refine⟨_,⟨h0,gb⟩,?_⟩;conv=>whnf
 exact⟨_,_,⟨rfl,rfl⟩,St.le_refl _,AV.leS_refl _ _ _⟩
def worthV(m:ModelV)(conF:ConV→Int)(values:List Int):Int:=if checkE m conF == 0 && (decide (values.length=m.vars.length) && !greatV values) then sumV (at0 values) m.goal else 0
theorem goal_terms{m:ModelV}(h:goalV m=0):∀ t∈m.goal,0≤t.2∧t.2<m.vars.length:=by
 unfold goalV at h
 by_cases h1:(!m.hasGoal && decide ((m.goal.length:Int) > 0))=true
 ·rw[if_pos h1] at h;exact absurd h (by decide)
 rw[if_neg h1] at h
 by_cases h2:(!countsV m.hasGoal m.goal.length)=true
 ·rw[if_pos h2] at h;exact absurd h (by decide)
 rw[if_neg h2] at h
 by_cases h3:m.goal.any (badVarV m.vars.length)=true
 ·rw[if_pos h3] at h;exact absurd h (by decide)
 intro t ht;have:=List.any_eq_false.1 (by simpa using h3) t ht
 simp only[badVarV,Bool.or_eq_true,decide_eq_true_eq,not_or] at this;omega
theorem right_goal{m:ModelV}{conF:ConV→Int}(h:checkE m conF=0):goalV m=0:=by
 unfold checkE at h
 by_cases h1:m.vars.length=0∨32<m.vars.length
 ·rw[if_pos h1] at h;exact absurd h (by decide)
 rw[if_neg h1] at h
 by_cases h2:firstE (errsV m.vars)≠0
 ·rw[if_pos h2] at h;exact absurd h h2
 rw[if_neg h2] at h
 by_cases h3:64<m.cons.length
 ·rw[if_pos h3] at h;exact absurd h (by decide)
 rw[if_neg h3] at h
 by_cases h4:firstE (m.cons.map conF)≠0
 ·rw[if_pos h4] at h;exact absurd h h4
 rw[if_neg h4] at h;exact h
theorem Worth_ok{m:ModelV}(hz:SzM m){conF:ConV→Int}(hcon:ConOk G m conF)(values:List Int)(hvl:values.length+1≤9223372036854775807)(S:St) :
 Triple P (C G) 17 [.ag (rowM m),.sl .any 1 (rowsI values)] S fun o S'=>o=.ret (.int .i64 (worthV m conF values))∧S'=S:=by
 have hri:=fun S=>right_ok (G:=G) hz hcon S
 have hsi:=fun S=>sized_ok (G:=G) values hvl S
 have hlv:=rowsV_len m.vars
 have hli:=rowsI_len values
 have hsu:checkE m conF=0→values.length=m.vars.length→∀ (S:St) (b:Nat),S b=some (.obj 27 [.sl .any 1 (rowsI values)])→Triple P (C G) 36 [.sl .any 2 (rowsTm m.goal),.fn (.func 37) [] [.ref b 0]] S fun o S'=>o=.ret (.int .i64 (sumV (at0 values) m.goal))∧S'=S:=fun h hl S b hb=>
  sum_ok m.goal hz.g fun t ht S1 hle=>by
   have:=goal_terms (right_goal h) t ht
   exact worth1_ok this.1 (by omega) (hle _ _ hb)
 have hsp:(checkE m conF == 0 && (decide (values.length=m.vars.length) && !greatV values))=false→worthV m conF values=0:=fun h=>by unfold worthV;rw[if_neg (by rw[h];simp)]
 have hsp1:(checkE m conF == 0 && (decide (values.length=m.vars.length) && !greatV values))=true→worthV m conF values=sumV (at0 values) m.goal:=fun h=>by unfold worthV;rw[if_pos h]
 generalize worthV m conF values=res at *;unfold rowM at hri ⊢;refine triple_of_awp (hT G) hm Tryz.func17 rfl (by decide +kernel) rfl (by decide +kernel) (by show 2≤_;decide +kernel) rfl ?_
 refine awp_seq2 fun K hK hQ=>?_
 conv=>whnf
 intro b2 hb2;conv=>whnf
 intro b3 hb3;conv=>whnf
 refine hK _ _ ?_;clear hK hQ K;have q3:=St.upd_same (S.upd b2 (.obj 26 [.sl .any 3 (rowsV m.vars),.sl .any 10 (rowsC m.cons),.bool m.hasGoal,.sl .any 2 (rowsTm m.goal)])) b3 (.obj 27 [.sl .any 1 (rowsI values)]);have q2:=St.up (p:=.obj 27 [.sl .any 1 (rowsI values)]) hb3 (St.upd_same S b2 (.obj 26 [.sl .any 3 (rowsV m.vars),.sl .any 10 (rowsC m.cons),.bool m.hasGoal,.sl .any 2 (rowsTm m.goal)]));have hle:=St.le_upd' (St.le_upd' (St.le_refl S) hb2 (.obj 26 [.sl .any 3 (rowsV m.vars),.sl .any 10 (rowsC m.cons),.bool m.hasGoal,.sl .any 2 (rowsTm m.goal)])) hb3 (.obj 27 [.sl .any 1 (rowsI values)]);generalize (S.upd b2 (.obj 26 [.sl .any 3 (rowsV m.vars),.sl .any 10 (rowsC m.cons),.bool m.hasGoal,.sl .any 2 (rowsTm m.goal)])).upd b3 (.obj 27 [.sl .any 1 (rowsI values)])=T at *;refine awp_seq2 fun K hK hQ=>?_
 conv=>whnf
 refine⟨_,_,q2,?_⟩;conv=>whnf
 refine(hri _).mono ?_;rintro o T' ⟨rfl,rfl⟩
 cases he:(checkE m conF == 0) with
 | false=>
   conv=>whnf
   refine hQ _ _ _ (by simp) ?_
   conv=>whnf
   exact⟨_,_,⟨congrArg (fun z=>Out.ret (AV.int .i64 z)) (hsp (by rw[he];rfl)).symm,rfl⟩,hle,AV.leS_refl _ _ _⟩
 | true=>
 have he':checkE m conF=0:=by simpa using he
 conv=>whnf
 refine⟨_,_,q3,?_⟩;conv=>whnf
 intro _;rw[hli];conv=>whnf
 refine⟨_,_,q2,?_⟩;conv=>whnf
 intro _;rw[hlv];conv=>whnf
 cases hl:((values.length:Int) != (m.vars.length:Int)) with
 | true=>
   have hl':decide (values.length=m.vars.length)=false:=decide_eq_false fun h=>by rw[h] at hl;simp at hl
   conv=>whnf
   refine hQ _ _ _ (by simp) ?_
   conv=>whnf
   exact⟨_,_,⟨congrArg (fun z=>Out.ret (AV.int .i64 z)) (hsp (by rw[he,hl'];rfl)).symm,rfl⟩,hle,AV.leS_refl _ _ _⟩
 | false=>
 have hl1:values.length=m.vars.length:=by simp at hl;omega
 have hl':decide (values.length=m.vars.length)=true:=decide_eq_true hl1
 conv=>whnf
 refine⟨_,_,q3,?_⟩;conv=>whnf
 refine(hsi _).mono ?_;rintro o T' ⟨rfl,rfl⟩
 cases hg:greatV values with
 | true=>
   conv=>whnf
   refine hQ _ _ _ (by simp) ?_
   conv=>whnf
   exact⟨_,_,⟨congrArg (fun z=>Out.ret (AV.int .i64 z)) (hsp (by rw[he,hl',hg];rfl)).symm,rfl⟩,hle,AV.leS_refl _ _ _⟩
 | false=>
 conv=>whnf
 refine hK _ _ ?_;clear hK hQ K;conv=>whnf
 refine⟨_,_,q2,?_⟩;conv=>whnf
 refine(hsu he' hl1 _ _ q3).mono ?_;rintro o T' ⟨rfl,rfl⟩;conv=>whnf
 exact⟨_,_,⟨congrArg (fun z=>Out.ret (AV.int .i64 z)) (hsp1 (by rw[he,hl',hg];rfl)).symm,rfl⟩,hle,AV.leS_refl _ _ _⟩
end Go.Proofs.YtjpboanohpaibaaGreatDoor.Aw

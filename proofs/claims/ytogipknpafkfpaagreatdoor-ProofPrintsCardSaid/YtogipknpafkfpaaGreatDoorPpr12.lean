/- strings.Join's contract; proof.rowText, ends. Package proof, walked: ends. Package hallmarkroom: the count of parts, wal -/
import Derived.Test.YtogipknpafkfpaaGreatDoorPpr11
import Derived.Test.YtogipknpafkfpaaGreatDoorPpr7
set_option linter.all false
set_option maxRecDepth 100000
namespace Go.Proofs.YtogipknpafkfpaaGreatDoor.Aw
open Go Go.RowKit
variable {G:Nat→Option (List AV)}
def joinS(l:List ByteArray)(sep:ByteArray):ByteArray:=⟨(Lib.join (l.map (·.data.toList)) sep.data.toList).toArray⟩
theorem join_ok(l:List ByteArray)(sep:ByteArray)(hn:l.length≤140737488355328)(hlen:(joinS l sep).size≤140737488355328)(S:St):Triple P (C G) 65 [.sl .any 1 (rowsS l),.str sep] S fun o S'=>o=.ret (.str (joinS l sep))∧S'=S:=by
 refine Triple.of_calls (x:=.str (joinS l sep)) Tryz.func65 rfl (by decide +kernel) (fun w vs hg hr=>?_) ⟨rfl,rfl⟩
 obtain⟨u,v,hv,r1,r2⟩:=RelL.two hr;simp only[Rel] at r1 r2;subst r2;have hl0:l=[]→∀ a c,vs=#[.slice a 0 c,.string sep]→Calls P 65 vs w fun e w'=>∃ v,e=.returned v∧Rel w' (rdOf S) (.str (joinS l sep)) v∧Below w.heap.size w w':=by
  rintro rfl a c rfl;refine(Tryz.strings_Join_none a c sep w).mono fun e w' he=>?_
  obtain⟨rfl,rfl⟩:=he;exact⟨_,rfl,by simp only[Rel];rfl,Below.refl _ _⟩
 have hrl:∀ l:List ByteArray,rowsS l=[]→l=[]:=fun l h=>by simpa [rowsS] using h
 rcases r1 with ⟨_,h,hz⟩ | ⟨b,off,cap,rfl,h1,h2,_,h4⟩
 ·obtain⟨ap,rfl⟩:=hz.slice;exact hl0 (hrl l h) ap 0 (arr_of_list hv)
 ·by_cases hl:l=[]
  ·subst hl;exact hl0 rfl _ cap (arr_of_list hv)
  ·rw[rowsS_len] at h1;have hcell:∀ (j:Nat) x,l[j]? = some x→w.cell? ⟨b,off+j,none⟩=some (.string x):=fun j x hx=>by
    obtain⟨g1,g2⟩:=RelRows.get h4 j [.str x] (by simp[rowsS,hx])
    obtain⟨v,⟨g3,g4,g5⟩,g6⟩:=RelAt.get g2 0 _ rfl;simp only[Rel] at g6;subst g6
    simpa using g4
   have hb:b<w.heap.size:=by
    cases l with
    | nil=>exact absurd rfl hl
    | cons x l=>
      have:=hcell 0 x rfl
      rcases Nat.lt_or_ge b w.heap.size with h | h
      ·exact h
      ·simp[World.cell?,Array.getElem?_eq_none h] at this
   rw[show vs=#[.slice (some ⟨b,off,none⟩) l.length cap,.string sep] by rw[← rowsS_len l];exact arr_of_list hv]
   have hlen':(Lib.join (l.map (·.data.toList)) sep.data.toList).length≤140737488355328:=by
    have:(joinS l sep).size=(Lib.join (l.map (·.data.toList)) sep.data.toList).length:=by unfold joinS;simp[ByteArray.size]
    omega
   refine(Tryz.strings_Join b off cap l sep w hcell hb hn h1 hlen').mono fun e w' he=>?_
   obtain⟨rfl,hbl⟩:=he;exact⟨_,rfl,by simp only[Rel];rfl,hbl⟩
theorem joinS_size(l:List ByteArray)(sep:ByteArray){k m:Nat}(hk:∀ x∈l,x.size≤k)(hs:sep.size≤m):(joinS l sep).size≤l.length*(k+m):=by
 have e:∀ b:ByteArray,b.data.toList.length=b.size:=fun b=>by rw[Array.length_toList];rfl
 have h1:(joinS l sep).size=(Lib.join (l.map (·.data.toList)) sep.data.toList).length:=by unfold joinS;simp[ByteArray.size]
 rw[h1]
 cases l with
 | nil=>simp[Lib.join_nil]
 | cons x l=>
   rw[List.map_cons,Lib.join_cons,List.length_append,e];have hx:=hk x (by simp)
   have ht:∀ l:List ByteArray,(∀ x∈l,x.size≤k)→(Lib.joinTail sep.data.toList (l.map (·.data.toList))).length≤l.length*(k+m):=by
    intro l hl
    induction l with
    | nil=>simp[Lib.joinTail]
    | cons y l ih=>
      have:=ih (fun z hz=>hl z (by simp[hz]))
      have hy:=hl y (by simp)
      unfold Lib.joinTail at this ⊢;rw[List.map_cons,List.map_cons,List.flatten_cons,List.length_append,List.length_append,e,e,List.length_cons,Nat.succ_mul];omega
   have:=ht l (fun z hz=>hk z (by simp[hz]))
   rw[List.length_cons,Nat.succ_mul];omega
def pieceT(ps:List (ByteArray×Int)):List ByteArray:=ps.flatMap fun p=>[p.1,litT p.2]
def spaceS:ByteArray:=⟨#[32]⟩
def rowT(ps:List (ByteArray×Int))(bound:ByteArray):ByteArray:=joinS (pieceT ps++[geS,bound,semiS]) spaceS
theorem pieceT_len(ps:List (ByteArray×Int)):(pieceT ps).length=2*ps.length:=by
 unfold pieceT
 induction ps with
 | nil=>rfl
 | cons p ps ih=>simp at ih ⊢;omega
theorem pieceT_snoc(ps:List (ByteArray×Int))(p:ByteArray×Int):pieceT (ps++[p])=pieceT ps++[p.1,litT p.2]:=by simp[pieceT]
def OkRow(ps:List (ByteArray×Int))(bound:ByteArray):Prop:=ps.length≤1000000∧(∀ p∈ps,okI p.2∧p.1.size≤10000000)∧bound.size≤10000000
theorem pieceT_size{ps:List (ByteArray×Int)}{bound:ByteArray}(h:OkRow ps bound):∀ x∈pieceT ps++[geS,bound,semiS],x.size≤10000000:=by
 intro x hx
 rcases List.mem_append.1 hx with hx | hx
 ·unfold pieceT at hx;obtain⟨p,hp,hx⟩:=List.mem_flatMap.1 hx;have:=h.2.1 p hp;have hl:=litT_size p.2 this.1
  simp at hx
  rcases hx with rfl | rfl
  ·exact this.2
  ·omega
 ·simp at hx
  rcases hx with rfl | rfl | rfl
  ·decide
  ·exact h.2.2
  ·decide
theorem rowText_ok(hG:G10 G)(ps:List (ByteArray×Int))(bound:ByteArray)(h:OkRow ps bound)(S:St):Triple P (C G) 62 [.ag [.sl .any 2 (rowsP ps),.str bound]] S fun o S'=>o=.ret (.str (rowT ps bound))∧S'=S:=by
 have hjs:=joinS_size (pieceT ps++[geS,bound,semiS]) spaceS (pieceT_size h) (m:=1) (by decide)
 have hpl:=pieceT_len ps
 refine triple_of_awp (hT G) hm Tryz.func62 rfl (by decide +kernel) rfl (by decide +kernel) (by show 1≤_;decide +kernel) rfl ?_
 refine awp_seq2 fun K hK hQ=>?_
 conv=>whnf
 intro b1 hb1;conv=>whnf
 refine hK _ _ ?_;clear hK hQ K;have q1:=St.upd_same S b1 (.obj 51 [.sl .any 2 (rowsP ps),.str bound]);have hle1:=St.le_upd' (St.le_refl S) hb1 (.obj 51 [.sl .any 2 (rowsP ps),.str bound]);generalize S.upd b1 (.obj 51 [.sl .any 2 (rowsP ps),.str bound])=S1 at *;refine awp_seq2 fun K hK hQ=>?_
 conv=>whnf
 refine hK _ _ ?_;clear hK hQ K;refine awp_seq2 fun K hK hQ=>?_
 conv=>whnf
 refine⟨_,_,q1,?_⟩;conv=>whnf
 intro _;conv=>whnf
 refine⟨⟨Nat×Nat,fun(i,ba)=>[(1,.ref b1 0),(3,.sl (.acc ba) 1 (rowsS (pieceT (ps.take i)))),(7,.sl .any 2 (rowsP ps)),(8,.int .i64 (ps.length:Int)),(9,.int .i64 (i:Int))],
  fun(i,ba) S2=>AccOk S1 S2 9 1 ba (pieceT (ps.take i)).length∧i≤ps.length,fun(i,_)=>ps.length-i⟩,
  ⟨(0,0),⟨rfl,rfl,⟨rfl,rfl⟩,congrArg (AV.int .i64) (by rw[rowsP_len]),rfl,trivial⟩,_,St.leW_refl _,AccOk.init _ _ _ _,by omega⟩,?_⟩
 rintro⟨i,ba⟩ S2 ⟨h1,h2⟩;have hl2:(pieceT (ps.take i)).length=2*i:=by rw[pieceT_len,List.length_take];omega
 conv=>whnf
 refine split_of (fun hlt=>?_) (fun hlt=>?_)
 ·have hlt:i<ps.length:=by have:=of_decide_eq_true hlt;omega
  have hsn:pieceT (ps.take (i+1))=pieceT (ps.take i)++[ps[i].1,litT ps[i].2]:=by rw[← pieceT_snoc,List.take_add_one];simp[hlt]
  have hz:=h.2.1 _ (List.getElem_mem hlt)
  have hgr:(rowsP ps)[(i:Int).toNat]? = some [.str ps[i].1,.int .i64 ps[i].2]:=by simp[rowsP,hlt]
  generalize ps[i].1=nm at *;generalize ps[i].2=z at *;clear hK hQ;conv=>whnf
  refine⟨_,⟨by omega,hgr⟩,?_⟩
  conv=>whnf
  intro b5 hb5;conv=>whnf
  refine⟨_,_,St.upd_same _ _ _,?_⟩;conv=>whnf
  rw[St.upd_upd];have h1':=h1.other hb5 (.obj 126 [.str nm,.int .i64 z]);have q5:=St.upd_same S2 b5 (.obj 126 [.str nm,.int .i64 z]);generalize S2.upd b5 (.obj 126 [.str nm,.int .i64 z])=S3 at *;refine⟨[5],(.free 0 (.free 1 (.free 2 (.free 3 (.free 4 (.free 5 (.one 6 (.one 7 (.free 8 .done) .none) .none))))))),_,by decide +kernel,?_,fun _ _ h=>⟨_,.inl rfl,h⟩⟩
  conv=>whnf
  refine⟨_,_,q5,?_⟩;conv=>whnf
  refine⟨_,_,q5,?_⟩;conv=>whnf
  refine⟨.str (litT z),(litText_ok hG z hz.1 _).mono ?_,?_⟩
  ·rintro o S' ⟨rfl,rfl⟩;exact⟨rfl,rfl⟩
  conv=>whnf
  intro bb hbb;have h1'':=h1'.other hbb (.tip 9 1 2);conv=>whnf
  refine⟨⟨fun hl=>?_,?_⟩,fun S4 c1 c2 b' c3=>?_⟩
  ·have:0<(pieceT (ps.take i)).length:=by
    cases hx:pieceT (ps.take i) with
    | nil=>rw[hx] at hl;exact absurd rfl hl
    | cons _ _=>simp
   rw[rowsS_len];exact h1''.tip this
  ·show((rowsS (pieceT (ps.take i))).length+2)*16≤_
   rw[rowsS_len];have:=h.1;omega
  have h5:=h1''.push (m:=(pieceT (ps.take i)).length+2) (by rw[rowsS_len]) c1 c2 c3 rfl
  rw[rowsS_len];have w1:IntKind.i64.wrap ((i:Int)+1)=((i+1:Nat):Int):=wrap_nat (by have:=h.1;omega)
  conv=>whnf
  refine⟨(i+1,b'),⟨rfl,congrArg (AV.sl (.acc b') 1) (show rowsS (pieceT (ps.take i))++[[AV.str nm],[AV.str (litT z)]]=rowsS (pieceT (ps.take (i+1))) by rw[hsn];simp[rowsS]),⟨rfl,rfl⟩,rfl,congrArg _ w1,trivial⟩,⟨_,St.leW_refl _,by rw[hsn,show(pieceT (ps.take i)++[nm,litT z]).length=(pieceT (ps.take i)).length+2 by simp];exact h5,by show i+1≤_;omega⟩,by show ps.length-(i+1)<ps.length-i;omega⟩
 ·have hlt:i=ps.length:=by have:=of_decide_eq_false hlt;omega
  subst hlt;conv=>whnf
  refine hK _ _ ?_;clear hK hQ K;conv=>whnf
  refine⟨_,_,h1.le _ _ q1,?_⟩;conv=>whnf
  intro b3 hb3;have h1'':=h1.other hb3 (.tip 9 1 3);conv=>whnf
  refine⟨⟨fun hl=>?_,?_⟩,fun S4 c1 c2 b' c3=>?_⟩
  ·have:0<(pieceT (ps.take ps.length)).length:=by
    cases hx:pieceT (ps.take ps.length) with
    | nil=>rw[hx] at hl;exact absurd rfl hl
    | cons _ _=>simp
   rw[rowsS_len];exact h1''.tip this
  ·show((rowsS (pieceT (ps.take ps.length))).length+3)*16≤_
   rw[rowsS_len];have:=h.1;omega
  have h5:=h1''.push (m:=(pieceT (ps.take ps.length)).length+3) (by rw[rowsS_len]) c1 c2 c3 rfl
  rw[rowsS_len];conv=>whnf
  have hjl:(pieceT ps++[geS,bound,semiS]).length≤140737488355328:=by rw[List.length_append,hpl];have:=h.1;simp;omega
  have hj:=join_ok (G:=G) (pieceT ps++[geS,bound,semiS]) spaceS hjl (by have:=h.1;rw[List.length_append,hpl] at hjs;simp at hjs;omega)
  refine Triple.use (hj _) (by exact⟨⟨rfl,by rw[List.take_length];simp[rowsS,geS,semiS]⟩,rfl,trivial⟩) ?_
  rintro o S' ⟨rfl,rfl⟩;conv=>whnf
  exact⟨_,_,⟨rfl,rfl⟩,St.le_trans hle1 h5.le,AV.leS_refl _ _ _⟩
structure OkStep (v:StepV):Prop where
 ops:v.ops.length≤1000000∧∀ o∈v.ops,okI o.2.2∧o.2.1.size≤10000000
 row:OkRow v.pieces v.bound
 lits:v.lits.length≤1000000∧∀ z∈v.lits,okI z
 ids:v.ids.length≤1000000∧∀ x∈v.ids,x.size≤10000000
 num:v.num.size≤10000000
 s7:v.s7.size≤10000000
 s8:v.s8.size≤10000000
def idT(ids:List ByteArray):ByteArray:=match ids with | []=>ByteArray.empty | x::_=>(⟨#[32,58,32]⟩:ByteArray)++x
def endT(v:StepV):ByteArray:=
 if v.n6=1 then ⟨#[78,79,78,69]⟩ else if v.n6=3 then ⟨#[83,65,84]⟩ else if v.n6=2 then (⟨#[85,78,83,65,84]⟩:ByteArray)++idT v.ids
 else if v.n6=6 then ((⟨#[65,76,76,32]⟩:ByteArray)++v.s8)++idT v.ids
 else if v.n6=5 then ((((⟨#[66,79,85,78,68,83,32]⟩:ByteArray)++v.s7)++idT v.ids)++(⟨#[32]⟩:ByteArray))++v.s8 else ⟨#[]⟩
theorem idT_size{ids:List ByteArray}(h:∀ x∈ids,x.size≤10000000):(idT ids).size≤10000003:=by
 cases ids with
 | nil=>decide
 | cons x l=>
   have:=h x (by simp)
   unfold idT;rw[ba_size_append];show 3+_≤_;omega
theorem ends_ok(v:StepV)(h:OkStep v)(S:St):Triple P (C G) 64 [stepAV v] S fun o S'=>o=.ret (.str (endT v))∧S'=S:=by
 have hid:=idT_size h.ids.2
 have h7:=h.s7
 have h8:=h.s8
 obtain⟨kind,num,ops,pieces,bound,lits,ids,n6,s7,s8⟩:=v;dsimp only at hid h7 h8;unfold endT stepAV;dsimp only;refine triple_of_awp (hT G) hm Tryz.func64 rfl (by decide +kernel) rfl (by decide +kernel) (by show 1≤_;decide +kernel) rfl ?_
 refine awp_seq2 fun K hK hQ=>?_
 conv=>whnf
 intro b hb;conv=>whnf
 refine hK _ _ ?_;clear hK hQ K;have q:=St.upd_same S b (.obj 54 [.int .i64 kind,.str num,.sl .any 3 (rowsO ops),.sl .any 2 (rowsP pieces),.str bound,.sl .any 1 (rowsI lits),.sl .any 1 (rowsS ids),.int .i64 n6,.str s7,.str s8]);have hle:=St.le_upd' (St.le_refl S) hb (.obj 54 [.int .i64 kind,.str num,.sl .any 3 (rowsO ops),.sl .any 2 (rowsP pieces),.str bound,.sl .any 1 (rowsI lits),.sl .any 1 (rowsS ids),.int .i64 n6,.str s7,.str s8]);generalize S.upd b (.obj 54 [.int .i64 kind,.str num,.sl .any 3 (rowsO ops),.sl .any 2 (rowsP pieces),.str bound,.sl .any 1 (rowsI lits),.sl .any 1 (rowsS ids),.int .i64 n6,.str s7,.str s8])=S1 at *;refine awp_seq2 fun K hK hQ=>?_
 conv=>whnf
 refine hK _ _ ?_;clear hK hQ K;refine awp_seq2 fun K hK hQ=>?_
 conv=>whnf
 refine⟨_,_,q,?_⟩;conv=>whnf
 intro _
 cases ids with
 | nil=>
   conv=>whnf
   refine hK _ _ ?_;clear hK hQ K;rw[show(⟨#[]⟩:ByteArray)=idT [] from rfl];generalize idT []=it at *;refine awp_seq2 fun K hK hQ=>?_
   conv=>whnf
   refine⟨_,_,q,?_⟩;conv=>whnf
   refine split_of (fun h=>?_) (fun h=>?_)
   ·have h1:n6=1:=by simpa using h
    simp only[if_pos h1] at hQ;clear hK;conv=>whnf
    refine hQ _ _ _ (by simp) ?_
    conv=>whnf
    exact⟨_,_,⟨rfl,rfl⟩,hle,AV.leS_refl _ _ _⟩
   have h1:¬ n6=1:=by simpa using h
   simp only[if_neg h1] at hK hQ;conv=>whnf
   refine split_of (fun h=>?_) (fun h=>?_)
   ·have h1:n6=3:=by simpa using h
    simp only[if_pos h1] at hQ;clear hK;conv=>whnf
    refine hQ _ _ _ (by simp) ?_
    conv=>whnf
    exact⟨_,_,⟨rfl,rfl⟩,hle,AV.leS_refl _ _ _⟩
   have h2:¬ n6=3:=by simpa using h
   simp only[if_neg h2] at hK hQ;conv=>whnf
   refine split_of (fun h=>?_) (fun h=>?_)
   ·have h1:n6=2:=by simpa using h
    simp only[if_pos h1] at hQ;clear hK;conv=>whnf
    refine⟨by show 5+_≤_;omega,?_⟩
    conv=>whnf
    refine hQ _ _ _ (by simp) ?_
    conv=>whnf
    exact⟨_,_,⟨rfl,rfl⟩,hle,AV.leS_refl _ _ _⟩
   have h3:¬ n6=2:=by simpa using h
   simp only[if_neg h3] at hK hQ;conv=>whnf
   refine split_of (fun h=>?_) (fun h=>?_)
   ·have h1:n6=6:=by simpa using h
    simp only[if_pos h1] at hQ;clear hK;conv=>whnf
    refine⟨_,_,q,?_⟩;conv=>whnf
    refine⟨by show 4+_≤_;omega,?_⟩
    conv=>whnf
    refine⟨by rw[ba_size_append];show 4+_+_≤_;omega,?_⟩
    conv=>whnf
    refine hQ _ _ _ (by simp) ?_
    conv=>whnf
    exact⟨_,_,⟨rfl,rfl⟩,hle,AV.leS_refl _ _ _⟩
   have h4:¬ n6=6:=by simpa using h
   simp only[if_neg h4] at hK hQ;conv=>whnf
   refine split_of (fun h=>?_) (fun h=>?_)
   ·have h1:n6=5:=by simpa using h
    simp only[if_pos h1] at hQ;clear hK;conv=>whnf
    refine⟨_,_,q,?_⟩;conv=>whnf
    refine⟨by show 7+_≤_;omega,?_⟩
    conv=>whnf
    refine⟨by rw[ba_size_append];show 7+_+_≤_;omega,?_⟩
    conv=>whnf
    refine⟨by rw[ba_size_append,ba_size_append];show 7+_+_+1≤_;omega,?_⟩
    conv=>whnf
    refine⟨_,_,q,?_⟩;conv=>whnf
    refine⟨by rw[ba_size_append,ba_size_append,ba_size_append];show 7+_+_+1+_≤_;omega,?_⟩
    conv=>whnf
    refine hQ _ _ _ (by simp) ?_
    conv=>whnf
    exact⟨_,_,⟨rfl,rfl⟩,hle,AV.leS_refl _ _ _⟩
   have h5:¬ n6=5:=by simpa using h
   simp only[if_neg h5] at hK hQ;conv=>whnf
   refine hK _ _ ?_;clear hK hQ K;conv=>whnf
   exact⟨_,_,⟨rfl,rfl⟩,hle,AV.leS_refl _ _ _⟩
 | cons x l=>
   refine split_of (fun hh=>?_) (fun hh=>by simp[rowsS] at hh)
   conv=>whnf
   refine⟨_,_,q,?_⟩;conv=>whnf
   refine⟨_,⟨by omega,rfl⟩,?_⟩
   conv=>whnf
   refine⟨by show 3+x.size≤_;have:=h.ids.2 x (by simp);omega,?_⟩
   conv=>whnf
   refine hK _ _ ?_;clear hK hQ K;have hit:(⟨#[32,58,32]⟩:ByteArray)++x=idT (x::l):=rfl;rw[hit];generalize idT (x::l)=it at *;clear hit;refine awp_seq2 fun K hK hQ=>?_
   conv=>whnf
   refine⟨_,_,q,?_⟩;conv=>whnf
   refine split_of (fun h=>?_) (fun h=>?_)
   ·have h1:n6=1:=by simpa using h
    simp only[if_pos h1] at hQ;clear hK;conv=>whnf
    refine hQ _ _ _ (by simp) ?_
    conv=>whnf
    exact⟨_,_,⟨rfl,rfl⟩,hle,AV.leS_refl _ _ _⟩
   have h1:¬ n6=1:=by simpa using h
   simp only[if_neg h1] at hK hQ;conv=>whnf
   refine split_of (fun h=>?_) (fun h=>?_)
   ·have h1:n6=3:=by simpa using h
    simp only[if_pos h1] at hQ;clear hK;conv=>whnf
    refine hQ _ _ _ (by simp) ?_
    conv=>whnf
    exact⟨_,_,⟨rfl,rfl⟩,hle,AV.leS_refl _ _ _⟩
   have h2:¬ n6=3:=by simpa using h
   simp only[if_neg h2] at hK hQ;conv=>whnf
   refine split_of (fun h=>?_) (fun h=>?_)
   ·have h1:n6=2:=by simpa using h
    simp only[if_pos h1] at hQ;clear hK;conv=>whnf
    refine⟨by show 5+_≤_;omega,?_⟩
    conv=>whnf
    refine hQ _ _ _ (by simp) ?_
    conv=>whnf
    exact⟨_,_,⟨rfl,rfl⟩,hle,AV.leS_refl _ _ _⟩
   have h3:¬ n6=2:=by simpa using h
   simp only[if_neg h3] at hK hQ;conv=>whnf
   refine split_of (fun h=>?_) (fun h=>?_)
   ·have h1:n6=6:=by simpa using h
    simp only[if_pos h1] at hQ;clear hK;conv=>whnf
    refine⟨_,_,q,?_⟩;conv=>whnf
    refine⟨by show 4+_≤_;omega,?_⟩
    conv=>whnf
    refine⟨by rw[ba_size_append];show 4+_+_≤_;omega,?_⟩
    conv=>whnf
    refine hQ _ _ _ (by simp) ?_
    conv=>whnf
    exact⟨_,_,⟨rfl,rfl⟩,hle,AV.leS_refl _ _ _⟩
   have h4:¬ n6=6:=by simpa using h
   simp only[if_neg h4] at hK hQ;conv=>whnf
   refine split_of (fun h=>?_) (fun h=>?_)
   ·have h1:n6=5:=by simpa using h
    simp only[if_pos h1] at hQ;clear hK;conv=>whnf
    refine⟨_,_,q,?_⟩;conv=>whnf
    refine⟨by show 7+_≤_;omega,?_⟩
    conv=>whnf
    refine⟨by rw[ba_size_append];show 7+_+_≤_;omega,?_⟩
    conv=>whnf
    refine⟨by rw[ba_size_append,ba_size_append];show 7+_+_+1≤_;omega,?_⟩
    conv=>whnf
    refine⟨_,_,q,?_⟩;conv=>whnf
    refine⟨by rw[ba_size_append,ba_size_append,ba_size_append];show 7+_+_+1+_≤_;omega,?_⟩
    conv=>whnf
    refine hQ _ _ _ (by simp) ?_
    conv=>whnf
    exact⟨_,_,⟨rfl,rfl⟩,hle,AV.leS_refl _ _ _⟩
   have h5:¬ n6=5:=by simpa using h
   simp only[if_neg h5] at hK hQ;conv=>whnf
   refine hK _ _ ?_;clear hK hQ K;conv=>whnf
   exact⟨_,_,⟨rfl,rfl⟩,hle,AV.leS_refl _ _ _⟩
def cnt(x n:Int):Int:=if 0≤x then x-n else x
def OkC(x:Int):Prop:=-9223372036854775808≤x∧x≤1000000000
theorem cnt_ok{x n:Int}(h:OkC x)(h0:0≤n)(h1:n≤9223372036854775807):OkC (cnt x n):=by
 unfold OkC cnt at *
 split<;>omega
def CntAt(S:St)(b:Nat)(x:Int):Prop:=S b=some (.obj 73 [.int .i64 x])
theorem CMany_ok(n:Int)(S:St):Triple P (C G) 5 [.int .i64 n] S fun o S'=>∃ b,S b=none∧o=.ret (.ref b 0)∧S'=S.upd b (.obj 73 [.int .i64 n]):=by
 refine triple_of_awp (hT G) hm Tryz.func5 rfl (by decide +kernel) rfl (by decide +kernel) (by show 1≤_;decide +kernel) rfl ?_
 conv=>whnf
 intro b hb;conv=>whnf
 exact⟨_,_,⟨b,hb,rfl,rfl⟩,St.le_refl _,AV.leS_refl _ _ _⟩
theorem COk_ok{S:St}{b:Nat}{x:Int}(h:CntAt S b x):Triple P (C G) 7 [.ref b 0] S fun o S'=>o=.ret (.bool (decide (0≤x)))∧S'=S:=by
 unfold CntAt at h;refine triple_of_awp (hT G) hm Tryz.func7 rfl (by decide +kernel) rfl (by decide +kernel) (by show 1≤_;decide +kernel) rfl ?_
 conv=>whnf
 refine⟨_,_,h,?_⟩;conv=>whnf
 exact⟨_,_,⟨rfl,rfl⟩,St.le_refl _,AV.leS_refl _ _ _⟩
theorem CAdd_ok{S:St}{b:Nat}{x:Int}(h:CntAt S b x)(hx:OkC x)(n:Int)(h0:0≤n)(h1:n≤9223372036854775807):Triple P (C G) 47 [.ref b 0,.int .i64 n] S fun o S'=>(∃ r,o=.ret (.bool r))∧S'=S.upd b (.obj 73 [.int .i64 (cnt x n)]):=by
 have hw:0≤x→IntKind.i64.wrap (x-n)=x-n:=fun hp=>wrap_i64 (by omega) (by unfold OkC at hx;omega)
 unfold CntAt at h;unfold cnt
 by_cases hp:0≤x
 ·rw[if_pos hp];have hw:=hw hp;refine triple_of_awp (hT G) hm Tryz.func47 rfl (by decide +kernel) rfl (by decide +kernel) (by show 2≤_;decide +kernel) rfl ?_
  refine awp_seq2 fun K hK hQ=>?_
  conv=>whnf
  refine hK _ _ ?_;clear hK hQ K;refine awp_seq2 fun K hK hQ=>?_
  conv=>whnf
  refine⟨_,_,h,?_⟩;conv=>whnf
  refine split_of (fun _=>?_) (fun hh=>absurd hp (of_decide_eq_false hh))
  conv=>whnf
  refine⟨_,_,h,?_⟩;conv=>whnf
  refine⟨_,_,h,?_⟩;conv=>whnf
  rw[hw];refine hK _ _ ?_;clear hK hQ K;conv=>whnf
  refine⟨_,_,St.upd_same _ _ _,?_⟩;conv=>whnf
  exact⟨_,_,⟨⟨_,rfl⟩,rfl⟩,St.le_refl _,AV.leS_refl _ _ _⟩
 ·rw[if_neg hp];refine triple_of_awp (hT G) hm Tryz.func47 rfl (by decide +kernel) rfl (by decide +kernel) (by show 2≤_;decide +kernel) rfl ?_
  refine awp_seq2 fun K hK hQ=>?_
  conv=>whnf
  refine hK _ _ ?_;clear hK hQ K;refine awp_seq2 fun K hK hQ=>?_
  conv=>whnf
  refine⟨_,_,h,?_⟩;conv=>whnf
  refine split_of (fun hh=>absurd (of_decide_eq_true hh) hp) (fun _=>?_)
  conv=>whnf
  refine hK _ _ ?_;clear hK hQ K;conv=>whnf
  refine⟨_,_,h,?_⟩;conv=>whnf
  exact⟨_,_,⟨⟨_,rfl⟩,by rw[St.upd_id h]⟩,St.le_refl _,AV.leS_refl _ _ _⟩
def cntT(x:Int)(s:ByteArray):Int:=cnt (cnt x 1) s.size
theorem cntT_ok{x:Int}(h:OkC x)(s:ByteArray)(hs:s.size≤9223372036854775807):OkC (cntT x s):=cnt_ok (cnt_ok h (by omega) (by omega)) (by omega) (by omega)
theorem Text_c{S:St}{b:Nat}{x:Int}(h:CntAt S b x)(hx:OkC x)(s:ByteArray)(hs:s.size≤9223372036854775807):Triple P (C G) 44 [.ref b 0,.str s] S fun o S'=>o=.ret (.tu [])∧S'=S.upd b (.obj 73 [.int .i64 (cntT x s)]):=by
 have a1:=CAdd_ok (G:=G) h hx 1 (by omega) (by omega)
 have h1:CntAt (S.upd b (.obj 73 [.int .i64 (cnt x 1)])) b (cnt x 1):=St.upd_same _ _ _
 have a2:=CAdd_ok (G:=G) h1 (cnt_ok hx (by omega) (by omega)) s.size (by omega) (by omega)
 rw[St.upd_upd] at a2;unfold cntT;generalize cnt (cnt x 1) s.size=z at *;refine triple_of_awp (hT G) hm Tryz.func44 rfl (by decide +kernel) rfl (by decide +kernel) (by show 2≤_;decide +kernel) rfl ?_
 refine awp_seq2 fun K hK hQ=>?_
 conv=>whnf
 refine a1.mono ?_;rintro o T ⟨⟨r,rfl⟩,rfl⟩;conv=>whnf
 refine hK _ _ ?_;clear hK hQ K;conv=>whnf
 refine a2.mono ?_;rintro o T ⟨⟨r,rfl⟩,rfl⟩;conv=>whnf
 exact⟨_,_,⟨rfl,rfl⟩,St.le_refl _,AV.leS_refl _ _ _⟩
def cntL:Int→List ByteArray→Int
 | x,[]=>x
 | x,s::l=>if 0≤x then cntL (cntT x s) l else x
theorem Texts_c{S:St}{b:Nat}{x:Int}(h:CntAt S b x)(hx:OkC x)(l:List ByteArray)(hs:∀ o∈l,((fun s:ByteArray=>s) o).size≤9223372036854775807):Triple P (C G) 48 [.ref b 0,.sl .any 1 (rowsS l)] S fun o S'=>o=.ret (.tu [])∧S'=S.upd b (.obj 73 [.int .i64 (cntL x (l.map fun o=>(fun s:ByteArray=>s) o))]):=by
 refine triple_of_awp (hT G) hm Tryz.func48 rfl (by decide +kernel) rfl (by decide +kernel) (by show 2≤_;decide +kernel) rfl ?_
 conv=>whnf
 refine⟨⟨Nat×Int,fun z=>[(0,.ref b 0),(1,.sl .any 1 (rowsS l)),(4,.int .i64 (z.1:Int))],
  fun z S'=>S'=S.upd b (.obj 73 [.int .i64 z.2])∧OkC z.2∧z.1≤l.length∧cntL z.2 ((l.map fun o=>(fun s:ByteArray=>s) o).drop z.1)=cntL x (l.map fun o=>(fun s:ByteArray=>s) o),fun z=>l.length-z.1⟩,
  ⟨(0,x),⟨rfl,⟨rfl,rfl⟩,rfl,trivial⟩,_,St.leW_refl _,(St.upd_id h).symm,hx,by omega,rfl⟩,?_⟩
 rintro⟨i,y⟩ S' ⟨rfl,hy,hi,he⟩;dsimp only at hy hi he;have h':CntAt (S.upd b (.obj 73 [.int .i64 y])) b y:=St.upd_same _ _ _;have hok:=COk_ok (G:=G) h';conv=>whnf
 intro hlen;conv=>whnf
 by_cases hlt:i<l.length
 ·rw[show decide ((i:Int)<((rowsS l).length:Int))=true from decide_eq_true (by rw[rowsS_len];omega)]
  have hd:(l.map fun o=>(fun s:ByteArray=>s) o).drop i=(fun o=>(fun s:ByteArray=>s) o) l[i]::(l.map fun o=>(fun s:ByteArray=>s) o).drop (i+1):=by
   rw[List.drop_eq_getElem_cons (by simpa using hlt)];simp
  rw[hd] at he;simp only[cntL] at he;have hsi:=hs _ (List.getElem_mem hlt);have ga:(rowsS l)[(i:Int).toNat]? = some ([.str l[i]]):=by simp[rowsS,hlt]
  have htx:=Text_c (G:=G) h' hy ((fun o=>(fun s:ByteArray=>s) o) l[i]) hsi
  have hyt:=cntT_ok hy ((fun o=>(fun s:ByteArray=>s) o) l[i]) hsi
  rw[St.upd_upd] at htx;rw[rowsS_len] at hlen;conv=>whnf
  refine hok.mono ?_;rintro o T ⟨rfl,rfl⟩;conv=>whnf
  refine split_of (fun hp=>?_) (fun hp=>?_)
  ·have hp:0≤y:=of_decide_eq_true hp
   rw[if_pos hp] at he;have w1:IntKind.i64.wrap ((i:Int)+1)=((i+1:Nat):Int):=wrap_nat (by omega)
   dsimp only at htx hyt he;generalize l[i]=e at *;conv=>whnf
   refine⟨_,⟨by omega,ga⟩,?_⟩
   conv=>whnf
   refine htx.mono ?_;rintro o T ⟨rfl,rfl⟩;conv=>whnf
   exact⟨(i+1,_),⟨rfl,⟨rfl,rfl⟩,congrArg _ w1,trivial⟩,⟨_,St.leW_refl _,rfl,hyt,hlt,he⟩,by show l.length-(i+1)<l.length-i;omega⟩
  ·have hp:¬ 0≤y:=of_decide_eq_false hp
   rw[if_neg hp] at he;conv=>whnf
   exact⟨_,_,⟨rfl,by rw[he]⟩,St.le_refl _,AV.leS_refl _ _ _⟩
 ·rw[show decide ((i:Int)<((rowsS l).length:Int))=false from decide_eq_false (by rw[rowsS_len];omega)]
  have hd:(l.map fun o=>(fun s:ByteArray=>s) o).drop i=[]:=List.drop_eq_nil_of_le (by simp;omega)
  rw[hd] at he;conv=>whnf
  exact⟨_,_,⟨rfl,by rw[← he];rfl⟩,St.le_refl _,AV.leS_refl _ _ _⟩
theorem Ops_c{S:St}{b:Nat}{x:Int}(h:CntAt S b x)(hx:OkC x)(l:List (Int×ByteArray×Int))(hs:∀ o∈l,(o.2.1).size≤9223372036854775807):Triple P (C G) 45 [.ref b 0,.sl .any 3 (rowsO l)] S fun o S'=>o=.ret (.tu [])∧S'=S.upd b (.obj 73 [.int .i64 (cntL x (l.map fun o=>o.2.1))]):=by
 refine triple_of_awp (hT G) hm Tryz.func45 rfl (by decide +kernel) rfl (by decide +kernel) (by show 2≤_;decide +kernel) rfl ?_
 conv=>whnf
 refine⟨⟨Nat×Int,fun z=>[(0,.ref b 0),(1,.sl .any 3 (rowsO l)),(4,.int .i64 (z.1:Int))],
  fun z S'=>S'=S.upd b (.obj 73 [.int .i64 z.2])∧OkC z.2∧z.1≤l.length∧cntL z.2 ((l.map fun o=>o.2.1).drop z.1)=cntL x (l.map fun o=>o.2.1),fun z=>l.length-z.1⟩,
  ⟨(0,x),⟨rfl,⟨rfl,rfl⟩,rfl,trivial⟩,_,St.leW_refl _,(St.upd_id h).symm,hx,by omega,rfl⟩,?_⟩
 rintro⟨i,y⟩ S' ⟨rfl,hy,hi,he⟩;dsimp only at hy hi he;have h':CntAt (S.upd b (.obj 73 [.int .i64 y])) b y:=St.upd_same _ _ _;have hok:=COk_ok (G:=G) h';conv=>whnf
 intro hlen;conv=>whnf
 by_cases hlt:i<l.length
 ·rw[show decide ((i:Int)<((rowsO l).length:Int))=true from decide_eq_true (by rw[rowsO_len];omega)]
  have hd:(l.map fun o=>o.2.1).drop i=(fun o=>o.2.1) l[i]::(l.map fun o=>o.2.1).drop (i+1):=by
   rw[List.drop_eq_getElem_cons (by simpa using hlt)];simp
  rw[hd] at he;simp only[cntL] at he;have hsi:=hs _ (List.getElem_mem hlt);have ga:(rowsO l)[(i:Int).toNat]? = some ([.int .i64 l[i].1,.str l[i].2.1,.int .i64 l[i].2.2]):=by simp[rowsO,hlt]
  have htx:=Text_c (G:=G) h' hy ((fun o=>o.2.1) l[i]) hsi
  have hyt:=cntT_ok hy ((fun o=>o.2.1) l[i]) hsi
  rw[St.upd_upd] at htx;rw[rowsO_len] at hlen;conv=>whnf
  refine hok.mono ?_;rintro o T ⟨rfl,rfl⟩;conv=>whnf
  refine split_of (fun hp=>?_) (fun hp=>?_)
  ·have hp:0≤y:=of_decide_eq_true hp
   rw[if_pos hp] at he;have w1:IntKind.i64.wrap ((i:Int)+1)=((i+1:Nat):Int):=wrap_nat (by omega)
   dsimp only at htx hyt he;generalize l[i]=e at *;conv=>whnf
   refine⟨_,⟨by omega,ga⟩,?_⟩
   conv=>whnf
   refine htx.mono ?_;rintro o T ⟨rfl,rfl⟩;conv=>whnf
   exact⟨(i+1,_),⟨rfl,⟨rfl,rfl⟩,congrArg _ w1,trivial⟩,⟨_,St.leW_refl _,rfl,hyt,hlt,he⟩,by show l.length-(i+1)<l.length-i;omega⟩
  ·have hp:¬ 0≤y:=of_decide_eq_false hp
   rw[if_neg hp] at he;conv=>whnf
   exact⟨_,_,⟨rfl,by rw[he]⟩,St.le_refl _,AV.leS_refl _ _ _⟩
 ·rw[show decide ((i:Int)<((rowsO l).length:Int))=false from decide_eq_false (by rw[rowsO_len];omega)]
  have hd:(l.map fun o=>o.2.1).drop i=[]:=List.drop_eq_nil_of_le (by simp;omega)
  rw[hd] at he;conv=>whnf
  exact⟨_,_,⟨rfl,by rw[← he];rfl⟩,St.le_refl _,AV.leS_refl _ _ _⟩
def cntRow(x:Int)(ps:List (ByteArray×Int))(bound:ByteArray):Int:=cntL (cntT x bound) (ps.map fun o=>o.1)
theorem cntL_ok:∀ (l:List ByteArray) {x:Int},OkC x→(∀ s∈l,s.size≤9223372036854775807)→OkC (cntL x l)
 | [],x,h,_=>h
 | s::l,x,h,hs=>by
   unfold cntL
   split
   ·exact cntL_ok l (cntT_ok h s (hs s (by simp))) fun y hy=>hs y (by simp[hy])
   ·exact h
theorem Row_c{S:St}{b:Nat}{x:Int}(h:CntAt S b x)(hx:OkC x)(l:List (ByteArray×Int))(bound:ByteArray)(hb:bound.size≤9223372036854775807)(hs:∀ o∈l,o.1.size≤9223372036854775807):Triple P (C G) 46 [.ref b 0,.ag [.sl .any 2 (rowsP l),.str bound]] S fun o S'=>o=.ret (.tu [])∧S'=S.upd b (.obj 73 [.int .i64 (cntRow x l bound)]):=by
 refine triple_of_awp (hT G) hm Tryz.func46 rfl (by decide +kernel) rfl (by decide +kernel) (by show 2≤_;decide +kernel) rfl ?_
 refine awp_seq2 fun K hK hQ=>?_
 conv=>whnf
 intro b3 hb3;conv=>whnf
 refine hK _ _ ?_;clear hK hQ K;have hne:b≠b3:=St.ne_of hb3 h;generalize hS1:S.upd b3 (.obj 51 [.sl .any 2 (rowsP l),.str bound])=S1;have q3:S1 b3=some (.obj 51 [.sl .any 2 (rowsP l),.str bound]):=by rw[← hS1];exact St.upd_same _ _ _
 have h1:CntAt S1 b x:=by rw[← hS1];exact St.up hb3 h
 have htx:=Text_c (G:=G) h1 hx bound hb
 have hy0:=cntT_ok hx bound hb
 refine awp_seq2 fun K hK hQ=>?_
 conv=>whnf
 refine⟨_,_,q3,?_⟩;conv=>whnf
 refine htx.mono ?_;rintro o T ⟨rfl,rfl⟩;conv=>whnf
 refine hK _ _ ?_;clear hK hQ K;unfold cntRow;generalize cntT x bound=x0 at *;conv=>whnf
 refine⟨⟨Nat×Int,fun z=>[(0,.ref b 0),(3,.ref b3 0),(4,.int .i64 (z.1:Int))],
  fun z S'=>S'=S1.upd b (.obj 73 [.int .i64 z.2])∧OkC z.2∧z.1≤l.length∧cntL z.2 ((l.map fun o=>o.1).drop z.1)=cntL x0 (l.map fun o=>o.1),fun z=>l.length-z.1⟩,
  ⟨(0,x0),⟨rfl,rfl,rfl,trivial⟩,_,St.leW_refl _,rfl,hy0,by omega,rfl⟩,?_⟩
 rintro⟨i,y⟩ S' ⟨rfl,hy,hi,he⟩;dsimp only at hy hi he;have h':CntAt (S1.upd b (.obj 73 [.int .i64 y])) b y:=St.upd_same _ _ _;have q':(S1.upd b (.obj 73 [.int .i64 y])) b3=some (.obj 51 [.sl .any 2 (rowsP l),.str bound]):=St.ov (Ne.symm hne) q3;have hok:=COk_ok (G:=G) h';have hend:∀ z:Int,St.le (S.upd b (.obj 73 [.int .i64 z])) (S1.upd b (.obj 73 [.int .i64 z])):=fun z=>by
  rw[← hS1];exact St.le_upd2 (St.le_upd' (St.le_refl _) hb3 _) _ _
 conv=>whnf
 refine⟨_,_,q',?_⟩;conv=>whnf
 intro hlen;conv=>whnf
 by_cases hlt:i<l.length
 ·rw[show decide ((i:Int)<((rowsP l).length:Int))=true from decide_eq_true (by rw[rowsP_len];omega)]
  have hd:(l.map fun o=>o.1).drop i=(fun o:ByteArray×Int=>o.1) l[i]::(l.map fun o=>o.1).drop (i+1):=by
   rw[List.drop_eq_getElem_cons (by simpa using hlt)];simp
  rw[hd] at he;simp only[cntL] at he;have hsi:=hs _ (List.getElem_mem hlt);have ga:(rowsP l)[(i:Int).toNat]? = some ([.str l[i].1,.int .i64 l[i].2]):=by simp[rowsP,hlt]
  have htx:=Text_c (G:=G) h' hy l[i].1 hsi
  have hyt:=cntT_ok hy l[i].1 hsi
  rw[St.upd_upd] at htx;rw[rowsP_len] at hlen;conv=>whnf
  refine hok.mono ?_;rintro o T ⟨rfl,rfl⟩;conv=>whnf
  refine split_of (fun hp=>?_) (fun hp=>?_)
  ·have hp:0≤y:=of_decide_eq_true hp
   rw[if_pos hp] at he;have w1:IntKind.i64.wrap ((i:Int)+1)=((i+1:Nat):Int):=wrap_nat (by omega)
   generalize l[i]=e at *;conv=>whnf
   refine⟨_,_,q',?_⟩;conv=>whnf
   refine⟨_,⟨by omega,ga⟩,?_⟩
   conv=>whnf
   refine htx.mono ?_;rintro o T ⟨rfl,rfl⟩;conv=>whnf
   exact⟨(i+1,_),⟨rfl,rfl,congrArg _ w1,trivial⟩,⟨_,St.leW_refl _,rfl,hyt,hlt,he⟩,by show l.length-(i+1)<l.length-i;omega⟩
  ·have hp:¬ 0≤y:=of_decide_eq_false hp
   rw[if_neg hp] at he;conv=>whnf
   exact⟨_,_,⟨rfl,rfl⟩,by rw[← he];exact hend _,AV.leS_refl _ _ _⟩
 ·rw[show decide ((i:Int)<((rowsP l).length:Int))=false from decide_eq_false (by rw[rowsP_len];omega)]
  have hd:(l.map fun o=>o.1).drop i=[]:=List.drop_eq_nil_of_le (by simp;omega)
  rw[hd] at he;conv=>whnf
  exact⟨_,_,⟨rfl,rfl⟩,by rw[← he];exact hend _,AV.leS_refl _ _ _⟩
structure SzStep (v:StepV):Prop where
 num:v.num.size≤9223372036854775807
 ops:∀ o∈v.ops,o.2.1.size≤9223372036854775807
 pieces:∀ p∈v.pieces,p.1.size≤9223372036854775807
 bound:v.bound.size≤9223372036854775807
 ids:∀ x∈v.ids,x.size≤9223372036854775807
 s7:v.s7.size≤9223372036854775807
 s8:v.s8.size≤9223372036854775807
 lits:v.lits.length≤9223372036854775807
def cntS(x:Int)(v:StepV):Int:=
 cntL (cnt (cntRow (cntL (cntT (cntT (cntT x v.num) v.s7) v.s8) (v.ops.map fun o=>o.2.1)) v.pieces v.bound) v.lits.length) (v.ids.map fun o=>(fun s:ByteArray=>s) o)
theorem cntRow_ok{x:Int}(h:OkC x)(l:List (ByteArray×Int))(bound:ByteArray)(hb:bound.size≤9223372036854775807)(hs:∀ o∈l,o.1.size≤9223372036854775807):OkC (cntRow x l bound):=
 cntL_ok _ (cntT_ok h bound hb) fun s hs'=>by
  obtain⟨o,ho,rfl⟩:=List.mem_map.1 hs';exact hs o ho
theorem cntS_ok{x:Int}(h:OkC x){v:StepV}(hv:SzStep v):OkC (cntS x v):=
 cntL_ok _ (cnt_ok (cntRow_ok (cntL_ok _ (cntT_ok (cntT_ok (cntT_ok h _ hv.num) _ hv.s7) _ hv.s8) (fun s hs=>by
  obtain⟨o,ho,rfl⟩:=List.mem_map.1 hs;exact hv.ops o ho)) _ _ hv.bound hv.pieces) (by omega) (by have:=hv.lits;omega)) (fun s hs=>by
  obtain⟨o,ho,rfl⟩:=List.mem_map.1 hs;exact hv.ids o ho)
theorem Step_c{S:St}{b:Nat}{x:Int}(h:CntAt S b x)(hx:OkC x)(v:StepV)(hv:SzStep v):Triple P (C G) 18 [.ref b 0,stepAV v] S fun o S'=>o=.ret (.tu [])∧S'=S.upd b (.obj 73 [.int .i64 (cntS x v)]):=by
 refine triple_of_awp (hT G) hm Tryz.func18 rfl (by decide +kernel) rfl (by decide +kernel) (by show 2≤_;decide +kernel) rfl ?_
 refine awp_seq2 fun K hK hQ=>?_
 conv=>whnf
 intro b3 hb3;conv=>whnf
 refine hK _ _ ?_;clear hK hQ K;have hne:b≠b3:=St.ne_of hb3 h;change awp _ _ _ _ (S.upd b3 (.obj 54 (stepR v))) _;generalize hS1:S.upd b3 (.obj 54 (stepR v))=S1;have q3:S1 b3=some (.obj 54 (stepR v)):=by rw[← hS1];exact St.upd_same _ _ _
 have h1:CntAt S1 b x:=by rw[← hS1];exact St.up hb3 h
 have hend:∀ z:Int,St.le (S.upd b (.obj 73 [.int .i64 z])) (S1.upd b (.obj 73 [.int .i64 z])):=fun z=>by
  rw[← hS1];exact St.le_upd2 (St.le_upd' (St.le_refl _) hb3 _) _ _
 have hc:∀ z:Int,CntAt (S1.upd b (.obj 73 [.int .i64 z])) b z:=fun z=>St.upd_same _ _ _
 have hq:∀ z:Int,(S1.upd b (.obj 73 [.int .i64 z])) b3=some (.obj 54 (stepR v)):=fun z=>St.ov (Ne.symm hne) q3
 have a0:=Text_c (G:=G) h1 hx v.num hv.num
 have o0:=cntT_ok hx v.num hv.num
 have a1:=Text_c (G:=G) (hc _) o0 v.s7 hv.s7
 have o1:=cntT_ok o0 v.s7 hv.s7
 have a2:=Text_c (G:=G) (hc _) o1 v.s8 hv.s8
 have o2:=cntT_ok o1 v.s8 hv.s8
 have a3:=Ops_c (G:=G) (hc _) o2 v.ops hv.ops
 have o3:OkC (cntL (cntT (cntT (cntT x v.num) v.s7) v.s8) (v.ops.map fun o=>o.2.1)):=cntL_ok _ o2 (fun s hs=>by
  obtain⟨o,ho,rfl⟩:=List.mem_map.1 hs;exact hv.ops o ho)
 have a4:=Row_c (G:=G) (hc _) o3 v.pieces v.bound hv.bound hv.pieces
 have o4:=cntRow_ok o3 v.pieces v.bound hv.bound hv.pieces
 have a5:=CAdd_ok (G:=G) (hc _) o4 (v.lits.length:Int) (by omega) (by have:=hv.lits;omega)
 have o5:=cnt_ok o4 (n:=(v.lits.length:Int)) (by omega) (by have:=hv.lits;omega)
 have a6:=Texts_c (G:=G) (hc _) o5 v.ids hv.ids
 rw[St.upd_upd] at a1 a2 a3 a4 a5 a6;unfold cntS;generalize cntL (cnt (cntRow (cntL (cntT (cntT (cntT x v.num) v.s7) v.s8) (v.ops.map fun o=>o.2.1)) v.pieces v.bound) v.lits.length) (v.ids.map fun o=>(fun s:ByteArray=>s) o)=z6 at *
 generalize cnt (cntRow (cntL (cntT (cntT (cntT x v.num) v.s7) v.s8) (v.ops.map fun o=>o.2.1)) v.pieces v.bound) v.lits.length=z5 at *
 generalize cntRow (cntL (cntT (cntT (cntT x v.num) v.s7) v.s8) (v.ops.map fun o=>o.2.1)) v.pieces v.bound=z4 at *
 generalize cntL (cntT (cntT (cntT x v.num) v.s7) v.s8) (v.ops.map fun o=>o.2.1)=z3 at *
 generalize cntT (cntT (cntT x v.num) v.s7) v.s8=z2 at *;generalize cntT (cntT x v.num) v.s7=z1 at *;generalize cntT x v.num=z0 at *;refine awp_seq2 fun K hK hQ=>?_
 conv=>whnf
 refine⟨_,_,q3,?_⟩;conv=>whnf
 refine a0.mono ?_;rintro o T ⟨rfl,rfl⟩;conv=>whnf
 refine hK _ _ ?_;clear hK hQ K;refine awp_seq2 fun K hK hQ=>?_
 conv=>whnf
 refine⟨_,_,hq _,?_⟩;conv=>whnf
 refine a1.mono ?_;rintro o T ⟨rfl,rfl⟩;conv=>whnf
 refine hK _ _ ?_;clear hK hQ K;refine awp_seq2 fun K hK hQ=>?_
 conv=>whnf
 refine⟨_,_,hq _,?_⟩;conv=>whnf
 refine a2.mono ?_;rintro o T ⟨rfl,rfl⟩;conv=>whnf
 refine hK _ _ ?_;clear hK hQ K;refine awp_seq2 fun K hK hQ=>?_
 conv=>whnf
 refine⟨_,_,hq _,?_⟩;conv=>whnf
 refine a3.mono ?_;rintro o T ⟨rfl,rfl⟩;conv=>whnf
 refine hK _ _ ?_;clear hK hQ K;refine awp_seq2 fun K hK hQ=>?_
 conv=>whnf
 refine⟨_,_,hq _,?_⟩;conv=>whnf
 refine a4.mono ?_;rintro o T ⟨rfl,rfl⟩;conv=>whnf
 refine hK _ _ ?_;clear hK hQ K;refine awp_seq2 fun K hK hQ=>?_
 conv=>whnf
 refine⟨_,_,hq _,?_⟩;conv=>whnf
 intro _;conv=>whnf
 rw[rowsI_len];refine a5.mono ?_;rintro o T ⟨⟨r,rfl⟩,rfl⟩;conv=>whnf
 refine hK _ _ ?_;clear hK hQ K;conv=>whnf
 refine⟨_,_,hq _,?_⟩;conv=>whnf
 refine a6.mono ?_;rintro o T ⟨rfl,rfl⟩;conv=>whnf
 exact⟨_,_,⟨rfl,rfl⟩,hend _,AV.leS_refl _ _ _⟩
theorem ov_upd_out{S₀:St}{x:Nat}{o:Own}:∀ fp:List (Nat×Own),x ∉ fp.map (·.1)→(ov S₀ fp).upd x o=ov (S₀.upd x o) fp
 | [],_=>rfl
 | (c,q)::r,h=>by
  simp only[List.map_cons,List.mem_cons,not_or] at h;simp only[ov];rw[St.upd_comm (Ne.symm h.1),ov_upd_out r h.2]
theorem ov_del_out{S₀:St}{x:Nat}:∀ fp:List (Nat×Own),x ∉ fp.map (·.1)→(ov S₀ fp).del x=ov (S₀.del x) fp
 | [],_=>rfl
 | (c,q)::r,h=>by
  simp only[List.map_cons,List.mem_cons,not_or] at h;simp only[ov];rw[← ov_del_out r h.2]
  funext y
  by_cases hy:y=x
  ·subst hy;rw[St.del_same,St.upd_ne _ _ _ _ h.1,St.del_same]
  ·rw[St.del_ne _ _ _ hy]
   by_cases hc:y=c
   ·subst hc;rw[St.upd_same,St.upd_same]
   ·rw[St.upd_ne _ _ _ _ hc,St.upd_ne _ _ _ _ hc,St.del_ne _ _ _ hy]
theorem RmB.out{S₀ S:St}{rb:Nat}{cells:List AV}{A:RmA}(h:RmB S₀ S rb cells A){x:Nat}(hx:S x=none∨∃ o,S₀ x=some o):x ∉ (((rb,Own.obj 44 cells)::fpsA A).map (·.1)):=by
 rcases hx with hx | ⟨o,hx⟩
 ·rw[h.eq] at hx;exact(ov_none h.ok.nd hx).2
 ·intro hm;obtain⟨p,q1,rfl⟩:=List.mem_map.1 hm;rw[h.ok.new p q1] at hx;cases hx
theorem RmB.set{S₀ S:St}{rb:Nat}{cells:List AV}{A:RmA}(h:RmB S₀ S rb cells A){x:Nat}(hx:S x=none∨∃ o,S₀ x=some o)(o:Own):RmB (S₀.upd x o) (S.upd x o) rb cells A:=by
 have hn:=h.out hx
 refine⟨by rw[h.eq];exact ov_upd_out _ hn,h.ok.nd,fun p hp=>?_⟩
 have hne:p.1≠x:=fun e=>hn (by rw[← e];exact List.mem_map.2 ⟨p,hp,rfl⟩)
 rw[St.upd_ne _ _ _ _ hne];exact h.ok.new p hp
theorem RmB.del{S₀ S:St}{rb:Nat}{cells:List AV}{A:RmA}(h:RmB S₀ S rb cells A){x:Nat}(hx:∃ o,S₀ x=some o):RmB (S₀.del x) (S.del x) rb cells A:=by
 have hn:=h.out (.inr hx)
 refine⟨by rw[h.eq];exact ov_del_out _ hn,h.ok.nd,fun p hp=>?_⟩
 have hne:p.1≠x:=fun e=>hn (by rw[← e];exact List.mem_map.2 ⟨p,hp,rfl⟩)
 rw[St.del_ne _ _ _ hne];exact h.ok.new p hp
def NW(S₀:St)(x:Nat):Prop:=∀ e cells,S₀ x=some (.obj e cells)→e≠3∧e≠9
theorem NW.none{S₀:St}{x:Nat}(h:S₀ x=none):NW S₀ x:=fun e c hc=>by rw[h] at hc;cases hc
theorem NW.tip{S₀:St}{x:Nat}{e:TypeId}{k n:Nat}(h:S₀ x=some (.tip e k n)):NW S₀ x:=fun e c hc=>by rw[h] at hc;cases hc
theorem NW.obj{S₀:St}{x:Nat}{e:TypeId}{cells:List AV}(h:S₀ x=some (.obj e cells))(h1:e≠3)(h2:e≠9):NW S₀ x:=fun e' c hc=>by
 rw[h] at hc;cases hc;exact⟨h1,h2⟩
theorem NW.ne{S₀:St}{x b:Nat}(h:NW S₀ x){e:TypeId}{cells:List AV}(he:e=3∨e=9)(hb:S₀ b=some (.obj e cells)):b≠x:=fun hh=>by
 rw[hh] at hb;obtain⟨h1,h2⟩:=h _ _ hb
 rcases he with he | he
 ·exact h1 he
 ·exact h2 he
theorem Rm.set{S₀ S:St}{Kn:Nat→Nat}{rb N:Nat}(h:Rm S₀ Kn S rb N){x:Nat}(hx:S x=none∨∃ o,S₀ x=some o)(hw:NW S₀ x)(o:Own):Rm (S₀.upd x o) Kn (S.upd x o) rb N:=by
 obtain⟨A,h1,h2⟩:=h;exact⟨A,h1.set hx o,h2.keep (Nat.le_refl _) fun b cells e he hb=>⟨St.upd_ne _ _ _ _ (hw.ne he hb),rfl⟩⟩
theorem Rm.del{S₀ S:St}{Kn:Nat→Nat}{rb N:Nat}(h:Rm S₀ Kn S rb N){x:Nat}(hx:∃ o,S₀ x=some o)(hw:NW S₀ x):Rm (S₀.del x) Kn (S.del x) rb N:=by
 obtain⟨A,h1,h2⟩:=h;exact⟨A,h1.del hx,h2.keep (Nat.le_refl _) fun b cells e he hb=>⟨St.del_ne _ _ _ (hw.ne he hb),rfl⟩⟩
theorem Rm.le{S₀ S:St}{Kn:Nat→Nat}{rb N:Nat}(h:Rm S₀ Kn S rb N):St.le S₀ S:=by
 obtain⟨A,h1,h2⟩:=h;exact h1.le
theorem Rm.down{S₀ S₁ S:St}{Kn:Nat→Nat}{rb N:Nat}(h:Rm S₁ Kn S rb N)(hle:St.le S₀ S₁)(hw:∀ b cells e,(e=3∨e=9)→S₁ b=some (.obj e cells)→S₀ b=S₁ b):∃ S',Rm S₀ Kn S' rb N∧St.le S' S:=by
 obtain⟨A,h1,h2⟩:=h;obtain⟨k1,k2⟩:=h1.down hle;exact⟨_,⟨A,k1,h2.keep (Nat.le_refl _) fun b cells e he hb=>⟨hw b cells e he hb,rfl⟩⟩,k2⟩
theorem row_r_ok{S₀ S:St}{Kn:Nat→Nat}{rb N:Nat}(h:Rm S₀ Kn S rb N)(hN:N≤100000000)(ps:List (List AV))(hr:ps.length≤100000000)(bound:ByteArray) :
 Triple P (C G) 76 [.ref rb 0,.ag [.sl .any 2 ps,.str bound]] S fun o S'=>o=.ret (.ag [.sl .any 2 ps,.str bound])∧Rm S₀ Kn S' rb (N+1):=by
 refine triple_of_awp (hT G) hm Tryz.func76 rfl (by decide +kernel) rfl (by decide +kernel) (by show 2≤_;decide +kernel) rfl ?_
 refine awp_seq2 fun K hK hQ=>?_
 conv=>whnf
 intro b3 hb3;conv=>whnf
 intro b4 hb4;conv=>whnf
 refine hK _ _ ?_;clear hK hQ K;have z3:=St.le_none h.le hb3;have n43:b4≠b3:=St.ne_upd hb4;have z4:=St.le_none h.le (St.no hb4);have h3:=h.set (.inl hb3) (NW.none z3) (.obj 51 [.sl .any 2 ps,.str bound]);have h4:=h3.set (.inl hb4) (NW.none ((St.upd_ne _ _ _ _ n43).trans z4)) (.obj 51 [.nils,.str ByteArray.empty]);have q3:((S₀.upd b3 (.obj 51 [.sl .any 2 ps,.str bound])).upd b4 (.obj 51 [.nils,.str ByteArray.empty])) b3=some (.obj 51 [.sl .any 2 ps,.str bound]):=St.ov n43.symm (St.upd_same _ _ _);have q4:((S₀.upd b3 (.obj 51 [.sl .any 2 ps,.str bound])).upd b4 (.obj 51 [.nils,.str ByteArray.empty])) b4=some (.obj 51 [.nils,.str ByteArray.empty]):=St.upd_same _ _ _;have hle0:St.le S₀ ((S₀.upd b3 (.obj 51 [.sl .any 2 ps,.str bound])).upd b4 (.obj 51 [.nils,.str ByteArray.empty])):=St.le_upd (St.le_upd (St.le_refl S₀) z3 _) z4 _;have hout:∀ x,x≠b3→x≠b4→((S₀.upd b3 (.obj 51 [.sl .any 2 ps,.str bound])).upd b4 (.obj 51 [.nils,.str ByteArray.empty])) x=S₀ x:=fun x h1 h2=>by rw[St.upd_ne _ _ _ _ h2,St.upd_ne _ _ _ _ h1]
 generalize (S₀.upd b3 (.obj 51 [.sl .any 2 ps,.str bound])).upd b4 (.obj 51 [.nils,.str ByteArray.empty])=S₄ at *;clear h3;refine awp_seq2 fun K hK hQ=>?_
 conv=>whnf
 refine⟨_,_,h4.le _ _ q3,?_⟩;conv=>whnf
 refine(layPieces_ok h4 hN ps hr 4 (by decide)).mono ?_
 rintro o T ⟨rfl,h5⟩;conv=>whnf
 refine⟨_,_,h5.le _ _ q3,?_⟩;conv=>whnf
 refine hK _ _ ?_;clear hK hQ K;have h6:=h5.set (.inr ⟨_,q3⟩) (NW.obj q3 (by decide) (by decide)) (.obj 51 [.sl .any 2 ps,.str bound])
 rw[St.upd_self q3] at h6;have q3':=h6.le _ _ q3;have q4':=h6.le _ _ q4;conv=>whnf
 refine⟨_,_,q3',?_⟩;conv=>whnf
 refine⟨_,_,q4',?_⟩;conv=>whnf
 refine⟨_,_,St.upd_same _ _ _,?_⟩;conv=>whnf
 have h7:=h6.set (.inr ⟨_,q4⟩) (NW.obj q4 (by decide) (by decide)) (.obj 51 [.sl .any 2 ps,.str bound])
 obtain⟨S',d1,d2⟩:=h7.down (St.le_upd hle0 z4 _) (fun b cells e he hb=>by
  have hb4:b≠b4:=(NW.obj (S₀:=S₄.upd b4 (.obj 51 [.sl .any 2 ps,.str bound])) (St.upd_same _ _ _) (by decide) (by decide)).ne he hb
  have hb':=hb
  rw[St.upd_ne _ _ _ _ hb4] at hb';have hb3:b≠b3:=(NW.obj q3 (by decide) (by decide)).ne he hb'
  rw[St.upd_ne _ _ _ _ hb4,hout b hb3 hb4])
 exact⟨_,_,⟨rfl,d1⟩,d2,AV.leS_refl _ _ _⟩
theorem rowsI_one(l:List Int):∀ e∈rowsI l,e.length=1:=by
 intro e he;simp only[rowsI,List.mem_map] at he;obtain⟨s,_,rfl⟩:=he;rfl
def rowW(v:StepV)(bL bI:Nat):List AV:=[.int .i64 v.kind,.str v.num,.sl .any 3 (rowsO v.ops),.sl .any 2 (rowsP v.pieces),.str v.bound,.arr bL 0 v.lits.length (v.lits.length+4),.arr bI 0 v.ids.length (v.ids.length+4),.int .i64 v.n6,.str v.s7,.str v.s8]
structure StW (S₀ S₁:St) (Kn:Nat→Nat) (v:StepV) (bL bI:Nat):Prop where
 l0:S₀ bL=none
 i0:S₀ bI=none
 lk:Kn bL=v.lits.length
 ik:Kn bI=v.ids.length
 l:∃ cap,Has 3 mkI S₁ bL (rowsI v.lits) 4 cap
 i:∃ cap,Has 9 mkT S₁ bI (rowsS v.ids) 4 cap
theorem StW.mono{S₀ S₁ S₂:St}{Kn Km:Nat→Nat}{v:StepV}{bL bI:Nat}(h:StW S₀ S₁ Kn v bL bI)(hs:∀ b cells e,(e=3∨e=9)→S₁ b=some (.obj e cells)→S₂ b=S₁ b∧Km b=Kn b):StW S₀ S₂ Km v bL bI:=by
 obtain⟨c1,k1⟩:=h.l;obtain⟨c2,k2⟩:=h.i;obtain⟨x1,y1⟩:=k1.at_;obtain⟨x2,y2⟩:=k2.at_;obtain⟨p1,p2⟩:=hs _ _ _ (.inl rfl) y1;obtain⟨p3,p4⟩:=hs _ _ _ (.inr rfl) y2;exact⟨h.l0,h.i0,p2.trans h.lk,p4.trans h.ik,⟨c1,k1.le p1⟩,⟨c2,k2.le p3⟩⟩
theorem Step_r_ok{S₀ S:St}{Kn:Nat→Nat}{rb N:Nat}(h:Rm S₀ Kn S rb N)(hN:N≤10000000)(v:StepV)(h1:v.ops.length≤100000000)(h2:v.pieces.length≤100000000)(h3:v.lits.length≤100000000)(h4:v.ids.length≤100000000) :
 Triple P (C G) 49 [.ref rb 0,stepAV v] S fun o S'=>∃ bL bI S₁ Km,o=.ret (.ag (rowW v bL bI))∧St.le S₀ S₁∧StW S₀ S₁ Km v bL bI∧(∀ x,S₀ x≠none→Km x=Kn x)∧Rm S₁ Km S' rb (N+4):=by
 refine triple_of_awp (hT G) hm Tryz.func49 rfl (by decide +kernel) rfl (by decide +kernel) (by show 2≤_;decide +kernel) rfl ?_
 refine awp_seq2 fun K hK hQ=>?_
 conv=>whnf
 intro b3 hb3;conv=>whnf
 intro b4 hb4;conv=>whnf
 refine hK _ _ ?_;clear hK hQ K;have z3:=St.le_none h.le hb3;have n43:b4≠b3:=St.ne_upd hb4;have z4:=St.le_none h.le (St.no hb4);have g3:=h.set (.inl hb3) (NW.none z3) (.obj 54 [.int .i64 v.kind,.str v.num,.sl .any 3 (rowsO v.ops),.sl .any 2 (rowsP v.pieces),.str v.bound,.sl .any 1 (rowsI v.lits),.sl .any 1 (rowsS v.ids),.int .i64 v.n6,.str v.s7,.str v.s8]);have g4:=g3.set (.inl hb4) (NW.none ((St.upd_ne _ _ _ _ n43).trans z4)) (.obj 54 stepZ);have q3:((S₀.upd b3 (.obj 54 [.int .i64 v.kind,.str v.num,.sl .any 3 (rowsO v.ops),.sl .any 2 (rowsP v.pieces),.str v.bound,.sl .any 1 (rowsI v.lits),.sl .any 1 (rowsS v.ids),.int .i64 v.n6,.str v.s7,.str v.s8])).upd b4 (.obj 54 stepZ)) b3=some (.obj 54 [.int .i64 v.kind,.str v.num,.sl .any 3 (rowsO v.ops),.sl .any 2 (rowsP v.pieces),.str v.bound,.sl .any 1 (rowsI v.lits),.sl .any 1 (rowsS v.ids),.int .i64 v.n6,.str v.s7,.str v.s8]):=St.ov n43.symm (St.upd_same _ _ _);have q4:((S₀.upd b3 (.obj 54 [.int .i64 v.kind,.str v.num,.sl .any 3 (rowsO v.ops),.sl .any 2 (rowsP v.pieces),.str v.bound,.sl .any 1 (rowsI v.lits),.sl .any 1 (rowsS v.ids),.int .i64 v.n6,.str v.s7,.str v.s8])).upd b4 (.obj 54 stepZ)) b4=some (.obj 54 stepZ):=St.upd_same _ _ _;have hout:∀ x,x≠b3→x≠b4→((S₀.upd b3 (.obj 54 [.int .i64 v.kind,.str v.num,.sl .any 3 (rowsO v.ops),.sl .any 2 (rowsP v.pieces),.str v.bound,.sl .any 1 (rowsI v.lits),.sl .any 1 (rowsS v.ids),.int .i64 v.n6,.str v.s7,.str v.s8])).upd b4 (.obj 54 stepZ)) x=S₀ x:=fun x h1 h2=>by rw[St.upd_ne _ _ _ _ h2,St.upd_ne _ _ _ _ h1]
 generalize (S₀.upd b3 (.obj 54 [.int .i64 v.kind,.str v.num,.sl .any 3 (rowsO v.ops),.sl .any 2 (rowsP v.pieces),.str v.bound,.sl .any 1 (rowsI v.lits),.sl .any 1 (rowsS v.ids),.int .i64 v.n6,.str v.s7,.str v.s8])).upd b4 (.obj 54 stepZ)=S₄ at *;clear g3
 -- layOps_ok g4 (by omega) (rowsO v.ops) (by rw[rowsO_len];exact h1) 4 (by decide) the contract's call,g4 h before,g5 h after
 refine awp_seq2 fun K hK hQ=>?_
 conv=>whnf
 refine⟨_,_,(g4).le _ _ q3,?_⟩;conv=>whnf
 refine(layOps_ok g4 (by omega) (rowsO v.ops) (by rw[rowsO_len];exact h1) 4 (by decide)).mono ?_
 rintro o T ⟨rfl,g5⟩;conv=>whnf
 refine⟨_,_,(g5).le _ _ q3,?_⟩;conv=>whnf
 refine hK _ _ ?_;clear hK hQ K;have g5:=(g5).set (.inr ⟨_,q3⟩) (NW.obj q3 (by decide) (by decide)) (.obj 54 [.int .i64 v.kind,.str v.num,.sl .any 3 (rowsO v.ops),.sl .any 2 (rowsP v.pieces),.str v.bound,.sl .any 1 (rowsI v.lits),.sl .any 1 (rowsS v.ids),.int .i64 v.n6,.str v.s7,.str v.s8])
 rw[St.upd_self q3] at g5
 -- row_r_ok g5 (by omega) (rowsP v.pieces) (by rw[rowsP_len];exact h2) v.bound the contract's call,g5 h before,g6 h after
 refine awp_seq2 fun K hK hQ=>?_
 conv=>whnf
 refine⟨_,_,(g5).le _ _ q3,?_⟩;conv=>whnf
 refine(row_r_ok g5 (by omega) (rowsP v.pieces) (by rw[rowsP_len];exact h2) v.bound).mono ?_
 rintro o T ⟨rfl,g6⟩;conv=>whnf
 refine⟨_,_,(g6).le _ _ q3,?_⟩;conv=>whnf
 refine hK _ _ ?_;clear hK hQ K;have g6:=(g6).set (.inr ⟨_,q3⟩) (NW.obj q3 (by decide) (by decide)) (.obj 54 [.int .i64 v.kind,.str v.num,.sl .any 3 (rowsO v.ops),.sl .any 2 (rowsP v.pieces),.str v.bound,.sl .any 1 (rowsI v.lits),.sl .any 1 (rowsS v.ids),.int .i64 v.n6,.str v.s7,.str v.s8])
 rw[St.upd_self q3] at g6;clear g4 g5
 -- the numbers
 refine awp_seq2 fun K hK hQ=>?_
 conv=>whnf
 refine⟨_,_,g6.le _ _ q3,?_⟩;conv=>whnf
 refine(layInts_ok g6 (by omega) (rowsI v.lits) (by rw[rowsI_len];exact h3) (rowsI_one _) 4 (by decide)).mono ?_
 rintro o T ⟨bL,capL,cL,rfl,zL,hL,g7⟩;have nL3:b3≠bL:=fun e=>by rw[e,zL] at q3;cases q3
 have nL4:b4≠bL:=fun e=>by rw[e,zL] at q4;cases q4
 have q3L:(S₄.upd bL (.obj 3 cL)) b3=_:=St.ov nL3 q3
 have q4L:(S₄.upd bL (.obj 3 cL)) b4=_:=St.ov nL4 q4
 conv=>whnf
 refine⟨_,_,g7.le _ _ q3L,?_⟩;conv=>whnf
 refine hK _ _ ?_;clear hK hQ K;have g7:=g7.set (.inr ⟨_,q3L⟩) (NW.obj q3L (by decide) (by decide)) (.obj 54 [.int .i64 v.kind,.str v.num,.sl .any 3 (rowsO v.ops),.sl .any 2 (rowsP v.pieces),.str v.bound,.arr bL 0 (rowsI v.lits).length ((rowsI v.lits).length+4),.sl .any 1 (rowsS v.ids),.int .i64 v.n6,.str v.s7,.str v.s8])
 have houtL:∀ x,x≠b3→x≠b4→((S₄.upd bL (.obj 3 cL)).upd b3 (.obj 54 [.int .i64 v.kind,.str v.num,.sl .any 3 (rowsO v.ops),.sl .any 2 (rowsP v.pieces),.str v.bound,.arr bL 0 (rowsI v.lits).length ((rowsI v.lits).length+4),.sl .any 1 (rowsS v.ids),.int .i64 v.n6,.str v.s7,.str v.s8])) x=(S₀.upd bL (.obj 3 cL)) x:=fun x h1 h2=>by
  rw[St.upd_ne _ _ _ _ h1]
  by_cases e:x=bL
  ·rw[e,St.upd_same,St.upd_same]
  ·rw[St.upd_ne _ _ _ _ e,St.upd_ne _ _ _ _ e,hout x h1 h2]
 have q3L':((S₄.upd bL (.obj 3 cL)).upd b3 (.obj 54 [.int .i64 v.kind,.str v.num,.sl .any 3 (rowsO v.ops),.sl .any 2 (rowsP v.pieces),.str v.bound,.arr bL 0 (rowsI v.lits).length ((rowsI v.lits).length+4),.sl .any 1 (rowsS v.ids),.int .i64 v.n6,.str v.s7,.str v.s8])) b3=some (.obj 54 [.int .i64 v.kind,.str v.num,.sl .any 3 (rowsO v.ops),.sl .any 2 (rowsP v.pieces),.str v.bound,.arr bL 0 (rowsI v.lits).length ((rowsI v.lits).length+4),.sl .any 1 (rowsS v.ids),.int .i64 v.n6,.str v.s7,.str v.s8]):=St.upd_same _ _ _
 have q4L':((S₄.upd bL (.obj 3 cL)).upd b3 (.obj 54 [.int .i64 v.kind,.str v.num,.sl .any 3 (rowsO v.ops),.sl .any 2 (rowsP v.pieces),.str v.bound,.arr bL 0 (rowsI v.lits).length ((rowsI v.lits).length+4),.sl .any 1 (rowsS v.ids),.int .i64 v.n6,.str v.s7,.str v.s8])) b4=some (.obj 54 stepZ):=St.ov n43 q4L
 have zL0:S₀ bL=none:=by rw[← hout bL nL3.symm nL4.symm];exact zL
 have hL0:Has 3 mkI (S₀.upd bL (.obj 3 cL)) bL (rowsI v.lits) 4 capL:=hL.le ((St.upd_same _ _ _).trans (St.upd_same _ _ _).symm)
 have z3L:(S₀.upd bL (.obj 3 cL)) b3=none:=(St.upd_ne _ _ _ _ nL3).trans z3
 have z4L:(S₀.upd bL (.obj 3 cL)) b4=none:=(St.upd_ne _ _ _ _ nL4).trans z4
 generalize (S₄.upd bL (.obj 3 cL)).upd b3 (.obj 54 [.int .i64 v.kind,.str v.num,.sl .any 3 (rowsO v.ops),.sl .any 2 (rowsP v.pieces),.str v.bound,.arr bL 0 (rowsI v.lits).length ((rowsI v.lits).length+4),.sl .any 1 (rowsS v.ids),.int .i64 v.n6,.str v.s7,.str v.s8])=S₅ at *;clear g6 hout q3 q4 q3L q4L hL
 -- the texts
 refine awp_seq2 fun K hK hQ=>?_
 conv=>whnf
 refine⟨_,_,g7.le _ _ q3L',?_⟩;conv=>whnf
 refine(layTexts_ok g7 (by omega) (rowsS v.ids) (by rw[rowsS_len];exact h4) (rowsS_one _) 4 (by decide)).mono ?_
 rintro o T ⟨bI,capI,cI,rfl,zI,hI,g8⟩;have nI3:b3≠bI:=fun e=>by rw[e,zI] at q3L';cases q3L'
 have nI4:b4≠bI:=fun e=>by rw[e,zI] at q4L';cases q4L'
 have q3I:(S₅.upd bI (.obj 9 cI)) b3=_:=St.ov nI3 q3L'
 have q4I:(S₅.upd bI (.obj 9 cI)) b4=_:=St.ov nI4 q4L'
 conv=>whnf
 refine⟨_,_,g8.le _ _ q3I,?_⟩;conv=>whnf
 refine hK _ _ ?_;clear hK hQ K;have g8:=g8.set (.inr ⟨_,q3I⟩) (NW.obj q3I (by decide) (by decide)) (.obj 54 [.int .i64 v.kind,.str v.num,.sl .any 3 (rowsO v.ops),.sl .any 2 (rowsP v.pieces),.str v.bound,.arr bL 0 (rowsI v.lits).length ((rowsI v.lits).length+4),.arr bI 0 (rowsS v.ids).length ((rowsS v.ids).length+4),.int .i64 v.n6,.str v.s7,.str v.s8])
 have houtI:∀ x,x≠b3→x≠b4→((S₅.upd bI (.obj 9 cI)).upd b3 (.obj 54 [.int .i64 v.kind,.str v.num,.sl .any 3 (rowsO v.ops),.sl .any 2 (rowsP v.pieces),.str v.bound,.arr bL 0 (rowsI v.lits).length ((rowsI v.lits).length+4),.arr bI 0 (rowsS v.ids).length ((rowsS v.ids).length+4),.int .i64 v.n6,.str v.s7,.str v.s8])) x=((S₀.upd bL (.obj 3 cL)).upd bI (.obj 9 cI)) x:=fun x h1 h2=>by
  rw[St.upd_ne _ _ _ _ h1]
  by_cases e:x=bI
  ·rw[e,St.upd_same,St.upd_same]
  ·rw[St.upd_ne _ _ _ _ e,St.upd_ne _ _ _ _ e,houtL x h1 h2]
 have q3':((S₅.upd bI (.obj 9 cI)).upd b3 (.obj 54 [.int .i64 v.kind,.str v.num,.sl .any 3 (rowsO v.ops),.sl .any 2 (rowsP v.pieces),.str v.bound,.arr bL 0 (rowsI v.lits).length ((rowsI v.lits).length+4),.arr bI 0 (rowsS v.ids).length ((rowsS v.ids).length+4),.int .i64 v.n6,.str v.s7,.str v.s8])) b3=some (.obj 54 [.int .i64 v.kind,.str v.num,.sl .any 3 (rowsO v.ops),.sl .any 2 (rowsP v.pieces),.str v.bound,.arr bL 0 (rowsI v.lits).length ((rowsI v.lits).length+4),.arr bI 0 (rowsS v.ids).length ((rowsS v.ids).length+4),.int .i64 v.n6,.str v.s7,.str v.s8]):=St.upd_same _ _ _
 have q4':((S₅.upd bI (.obj 9 cI)).upd b3 (.obj 54 [.int .i64 v.kind,.str v.num,.sl .any 3 (rowsO v.ops),.sl .any 2 (rowsP v.pieces),.str v.bound,.arr bL 0 (rowsI v.lits).length ((rowsI v.lits).length+4),.arr bI 0 (rowsS v.ids).length ((rowsS v.ids).length+4),.int .i64 v.n6,.str v.s7,.str v.s8])) b4=some (.obj 54 stepZ):=St.ov n43 q4I
 have zIL:(S₀.upd bL (.obj 3 cL)) bI=none:=by rw[← houtL bI nI3.symm nI4.symm];exact zI
 have nIL:bI≠bL:=St.ne_upd zIL
 have zI0:S₀ bI=none:=St.no zIL
 have hI0:Has 9 mkT ((S₀.upd bL (.obj 3 cL)).upd bI (.obj 9 cI)) bI (rowsS v.ids) 4 capI:=hI.le ((St.upd_same _ _ _).trans (St.upd_same _ _ _).symm)
 have hL1:Has 3 mkI ((S₀.upd bL (.obj 3 cL)).upd bI (.obj 9 cI)) bL (rowsI v.lits) 4 capL:=hL0.le (St.upd_ne _ _ _ _ nIL.symm)
 have z3I:((S₀.upd bL (.obj 3 cL)).upd bI (.obj 9 cI)) b3=none:=(St.upd_ne _ _ _ _ nI3).trans z3L
 have z4I:((S₀.upd bL (.obj 3 cL)).upd bI (.obj 9 cI)) b4=none:=(St.upd_ne _ _ _ _ nI4).trans z4L
 have hle:St.le S₀ ((S₀.upd bL (.obj 3 cL)).upd bI (.obj 9 cI)):=St.le_upd (St.le_upd (St.le_refl _) zL0 _) zI0 _
 generalize (S₅.upd bI (.obj 9 cI)).upd b3 (.obj 54 [.int .i64 v.kind,.str v.num,.sl .any 3 (rowsO v.ops),.sl .any 2 (rowsP v.pieces),.str v.bound,.arr bL 0 (rowsI v.lits).length ((rowsI v.lits).length+4),.arr bI 0 (rowsS v.ids).length ((rowsS v.ids).length+4),.int .i64 v.n6,.str v.s7,.str v.s8])=S₆ at *;generalize (S₀.upd bL (.obj 3 cL)).upd bI (.obj 9 cI)=T₆ at *;clear g7 houtL q3L' q4L' q3I q4I hI;have q3'':=g8.le _ _ q3';have q4'':=g8.le _ _ q4';unfold stepZ at q4'';conv=>whnf
 refine⟨_,_,q3'',?_⟩;conv=>whnf
 refine⟨_,_,q4'',?_⟩;conv=>whnf
 refine⟨_,_,St.upd_same _ _ _,?_⟩;conv=>whnf
 have g9:=g8.set (.inr ⟨_,q4'⟩) (NW.obj q4' (by decide) (by decide)) (.obj 54 [.int .i64 v.kind,.str v.num,.sl .any 3 (rowsO v.ops),.sl .any 2 (rowsP v.pieces),.str v.bound,.arr bL 0 (rowsI v.lits).length ((rowsI v.lits).length+4),.arr bI 0 (rowsS v.ids).length ((rowsS v.ids).length+4),.int .i64 v.n6,.str v.s7,.str v.s8])
 obtain⟨S',d1,d2⟩:=g9.down (S₀:=T₆) (fun x o hx=>by
  have hx3:x≠b3:=fun e=>by rw[e,z3I] at hx;cases hx
  have hx4:x≠b4:=fun e=>by rw[e,z4I] at hx;cases hx
  rw[St.upd_ne _ _ _ _ hx4,houtI x hx3 hx4];exact hx) (fun b cells e he hb=>by
  have hb4:b≠b4:=(NW.obj (S₀:=S₆.upd b4 (.obj 54 [.int .i64 v.kind,.str v.num,.sl .any 3 (rowsO v.ops),.sl .any 2 (rowsP v.pieces),.str v.bound,.arr bL 0 (rowsI v.lits).length ((rowsI v.lits).length+4),.arr bI 0 (rowsS v.ids).length ((rowsS v.ids).length+4),.int .i64 v.n6,.str v.s7,.str v.s8])) (St.upd_same _ _ _) (by decide) (by decide)).ne he hb
  have hb':=hb
  rw[St.upd_ne _ _ _ _ hb4] at hb';have hb3:b≠b3:=(NW.obj q3' (by decide) (by decide)).ne he hb'
  rw[St.upd_ne _ _ _ _ hb4,houtI b hb3 hb4])
 refine⟨_,_,⟨bL,bI,T₆,_,by unfold rowW;rw[rowsI_len,rowsS_len],hle,⟨zL0,zI0,?_,?_,⟨_,hL1⟩,⟨_,hI0⟩⟩,fun x hx=>?_,d1⟩,d2,AV.leS_refl _ _ _⟩
 ·rw[kset_ne _ _ nIL.symm,kset_same,rowsI_len]
 ·rw[kset_same,rowsS_len]
 ·rw[kset_ne _ _ (fun e=>hx (by rw[e];exact zI0)),kset_ne _ _ (fun e=>hx (by rw[e];exact zL0))]
abbrev StB:=StepV×Nat×Nat
def rowsW(ls:List StB):List (List AV):=ls.map fun y=>rowW y.1 y.2.1 y.2.2
@[simp] theorem rowsW_len (ls:List StB):(rowsW ls).length=ls.length:=by simp[rowsW]
def FullS(S₀ S1:St)(Kn:Nat→Nat)(rb N bf n:Nat)(ls:List StB):Prop:=∃ S₁ Km,St.le S₀ S₁∧S₀ bf=none∧S₁ bf=some (.tip 54 10 n)∧(∀ x,S₀ x≠none→Km x=Kn x)∧(∀ y∈ls,StW S₀ S₁ Km y.1 y.2.1 y.2.2)∧Rm S₁ Km S1 rb N
theorem FullS.tip{S₀ S1:St}{Kn:Nat→Nat}{rb N bf n:Nat}{ls:List StB}(h:FullS S₀ S1 Kn rb N bf n ls):S1 bf=some (.tip 54 10 n):=by
 obtain⟨S₁,Km,h1,h2,h3,h4,h5,h6⟩:=h;exact h6.le _ _ h3
theorem FullS.step{S₀ S1:St}{Kn:Nat→Nat}{rb N bf n bb b2 m:Nat}{ls:List StB}(h:FullS S₀ S1 Kn rb N bf n ls)(hbb:S1 bb=none)(o:Own)(hb2:((S1.upd bb o).del bf) b2=none)(hm:m=n+1):FullS S₀ (((S1.upd bb o).del bf).upd b2 (.tip 54 10 m)) Kn rb N b2 (n+1) ls:=by
 subst hm;obtain⟨S₁,Km,h1,h2,h3,h4,h5,h6⟩:=h;have zb:=St.le_none h6.le hbb;have k1:=h6.set (.inl hbb) (NW.none zb) o;have hne:bf≠bb:=fun e=>by rw[e,zb] at h3;cases h3
 have h3':(S₁.upd bb o) bf=some (.tip 54 10 n):=St.ov hne h3
 have k2:=k1.del (x:=bf) ⟨_,h3'⟩ (NW.tip h3')
 have z3:=St.le_none k2.le hb2
 have k3:=k2.set (.inl hb2) (NW.none z3) (.tip 54 10 (n+1))
 have h7:St.le S₀ ((S₁.upd bb o).del bf):=St.le_del (St.le_upd' h1 zb _) h2
 have z2:S₀ b2=none:=St.le_none h7 z3
 refine⟨_,Km,St.le_upd h7 z2 _,z2,St.upd_same _ _ _,h4,fun y hy=>(h5 y hy).mono fun b cells e he hb=>?_,k3⟩
 have n1:b≠bf:=(NW.tip h3).ne he hb
 have n2:b≠bb:=fun e=>by rw[e,zb] at hb;cases hb
 have e1:((S₁.upd bb o).del bf) b=S₁ b:=by rw[St.del_ne _ _ _ n1,St.upd_ne _ _ _ _ n2]
 have n3:b≠b2:=fun e=>by rw[← e,e1,hb] at z3;cases z3
 exact⟨by rw[St.upd_ne _ _ _ _ n3,e1],rfl⟩
theorem FullS.more{S₀ S1:St}{Kn:Nat→Nat}{rb bf n:Nat}{ls:List StB}{S₁ S₂:St}{Km Kl:Nat→Nat}{v:StepV}{bL bI M:Nat}(h1:St.le S₀ S₁)(h2:S₀ bf=none)(h3:S₁ bf=some (.tip 54 10 n))(h4:∀ x,S₀ x≠none→Km x=Kn x)(h5:∀ y∈ls,StW S₀ S₁ Km y.1 y.2.1 y.2.2)
 (k1:St.le S₁ S₂) (k2:StW S₁ S₂ Kl v bL bI) (k3:∀ x,S₁ x≠none→Kl x=Km x) (k4:Rm S₂ Kl S1 rb M):FullS S₀ S1 Kn rb M bf n (ls++[(v,bL,bI)]):=by
 refine⟨S₂,Kl,St.le_trans h1 k1,h2,k1 _ _ h3,fun x hx=>?_,fun y hy=>?_,k4⟩
 ·rw[k3 x fun e=>?_,h4 x hx]
  exact hx (St.le_none h1 e)
 ·rcases List.mem_append.1 hy with hy | hy
  ·exact(h5 y hy).mono fun b cells e he hb=>⟨(k1 _ _ hb).trans hb.symm,k3 b (by rw[hb];simp)⟩
  ·rw[List.mem_singleton.1 hy];exact⟨St.le_none h1 k2.l0,St.le_none h1 k2.i0,k2.lk,k2.ik,k2.l,k2.i⟩
theorem laySteps_ok{S₀ S:St}{Kn:Nat→Nat}{rb N:Nat}(h:Rm S₀ Kn S rb N)(l:List StepV)(hN:N+4*l.length≤1000000)(hl:∀ v∈l,v.ops.length≤100000000∧v.pieces.length≤100000000∧v.lits.length≤100000000∧v.ids.length≤100000000)(n:Nat)(hn:n≤1000) :
 Triple P (C G) 19 [.ref rb 0,.sl .any 10 (rowsT l),.int .i64 (n:Int)] S fun o S'=>∃ ls S₁ Km,ls.map (·.1)=l∧o=.ret (.sl .any 10 (rowsW ls))∧St.le S₀ S₁∧(∀ x,S₀ x≠none→Km x=Kn x)∧(∀ y∈ls,StW S₀ S₁ Km y.1 y.2.1 y.2.2)∧Rm S₁ Km S' rb (N+4*l.length+1):=by
 have hlot:=fun i S=>lot_ok (G:=G) i S
 refine triple_of_awp (hT G) hm Tryz.func19 rfl (by decide +kernel) rfl (by decide +kernel) (by show 3≤_;decide +kernel) rfl ?_
 refine awp_seq2 fun K hK hQ=>?_
 conv=>whnf
 refine hK _ _ ?_;clear hK hQ K;refine awp_seq2 fun K hK hQ=>?_
 conv=>whnf
 intro b0 hb0;conv=>whnf
 refine hK _ _ ?_;clear hK hQ K;have hF:FullS S₀ (S.upd b0 (.tip 54 10 0)) Kn rb N b0 0 []:=⟨_,Kn,St.le_upd' (St.le_refl _) (St.le_none h.le hb0) _,St.le_none h.le hb0,St.upd_same _ _ _,fun _ _=>rfl,fun _ hh=>(by cases hh),h.set (.inl hb0) (NW.none (St.le_none h.le hb0)) _⟩
 refine awp_seq2 fun K hK hQ=>?_
 conv=>whnf
 refine⟨⟨List StB×Nat,fun z=>[(0,.ref rb 0),(1,.sl .any 10 (rowsT l)),(2,.int .i64 (n:Int)),(7,.sl (.own z.2) 10 (rowsW z.1)),(8,.int .i64 (z.1.length:Int))],
  fun z S1=>FullS S₀ S1 Kn rb (N+4*z.1.length) z.2 z.1.length z.1∧z.1.length≤l.length∧z.1.map (·.1)=l.take z.1.length,fun z=>l.length-z.1.length⟩,
  ⟨([],b0),⟨rfl,⟨rfl,rfl⟩,rfl,rfl,rfl,trivial⟩,_,St.leW_refl _,hF,Nat.zero_le _,rfl⟩,?_⟩
 clear hF hb0 b0 h S;rintro⟨ls,bf⟩ S1 ⟨hF,hi,hls⟩;dsimp only at hF hi hls;obtain⟨i,hli⟩:∃ i,ls.length=i:=⟨_,rfl⟩;rw[hli] at hF hi hls;conv=>whnf
 intro hlen;conv=>whnf
 refine split_of (fun hlt=>?_) (fun hlt=>?_)
 ·have hlt:i<l.length:=by have:=of_decide_eq_true hlt;rw[rowsT_len,hli] at this;omega
  have ga:(rowsT l)[(ls.length:Int).toNat]? = some (stepR l[i]):=by rw[hli];simp[rowsT,hlt]
  have w1:IntKind.i64.wrap ((i:Int)+1)=((i+1:Nat):Int):=wrap_nat (by omega)
  have hsn:l.take (i+1)=l.take i++[l[i]]:=by rw[List.take_add_one];simp[hlt]
  obtain⟨e1,e2,e3,e4⟩:=hl _ (List.getElem_mem hlt);generalize l[i]=v at *;conv=>whnf
  refine⟨_,⟨by dsimp only;omega,ga⟩,?_⟩
  conv=>whnf
  obtain⟨S₁,Km,f1,f2,f3,f4,f5,f6⟩:=hF;refine(Step_r_ok f6 (by omega) v e1 e2 e3 e4).mono ?_
  rintro o T ⟨bL,bI,S₂,Kl,rfl,k1,k2,k3,k4⟩;have hF2:FullS S₀ T Kn rb (N+4*i+4) bf i (ls++[(v,bL,bI)]):=FullS.more (bf:=bf) f1 f2 f3 f4 f5 k1 k2 k3 k4;have hln:(ls++[(v,bL,bI)]).length=i+1:=by rw[List.length_append,hli];rfl
  unfold rowW;conv=>whnf
  intro bb hbb;conv=>whnf
  refine⟨⟨(St.up hbb hF2.tip).trans (congrArg (fun x=>some (Own.tip 54 10 x)) (show i=(rowsW ls).length by rw[rowsW_len,hli])),?_⟩,fun b2 hb2=>?_⟩
  ·show((rowsW ls).length+1)*176≤_;rw[rowsW_len,hli];omega
  have hF3:=hF2.step hbb _ hb2 (show(rowsW ls).length+1=i+1 by rw[rowsW_len,hli])
  conv=>whnf
  exact⟨(ls++[(v,bL,bI)],b2),⟨rfl,⟨rfl,rfl⟩,rfl,congrArg (AV.sl (.own b2) 10) (show rowsW ls++[rowW v bL bI]=rowsW (ls++[(v,bL,bI)]) by unfold rowsW;rw[List.map_append];rfl),congrArg (AV.int .i64) (show IntKind.i64.wrap ((ls.length:Int)+1)=(((ls++[(v,bL,bI)]).length:Nat):Int) by rw[hli,hln];exact w1),trivial⟩,⟨_,St.leW_refl _,by
   dsimp only;rw[hln];exact⟨(show N+4*i+4=N+4*(i+1) by omega) ▸ hF3,hlt,by rw[List.map_append,hls,hsn];rfl⟩⟩,by dsimp only;rw[hln,hli];omega⟩
 have hlt:i=l.length:=by have:=of_decide_eq_false hlt;rw[rowsT_len,hli] at this;omega
 subst hlt;rw[List.take_length] at hls;conv=>whnf
 refine hK _ _ ?_;clear hK hQ K;refine awp_seq2 fun K hK hQ=>?_
 conv=>whnf
 refine⟨⟨Nat×Nat,fun z=>[(0,.ref rb 0),(1,.sl .any 10 (rowsT l)),(2,.int .i64 (n:Int)),(7,.sl (.own z.2) 10 (rowsW ls++mks mkS z.1)),(9,.int .i64 (z.1:Int))],
  fun z S1=>FullS S₀ S1 Kn rb (N+4*l.length) z.2 (l.length+z.1) ls∧z.1≤n,fun z=>n-z.1⟩,
  ⟨(0,bf),⟨rfl,⟨rfl,rfl⟩,rfl,congrArg (AV.sl (.own bf) 10) (show rowsW ls=rowsW ls++mks mkS 0 by simp[mks]),rfl,trivial⟩,_,St.leW_refl _,hF,by omega⟩,?_⟩
 clear hF hlt hi bf S1;rintro⟨i,bf⟩ S1 ⟨hF,hi⟩;dsimp only at hF hi;conv=>whnf
 refine split_of (fun hlt=>?_) (fun hlt=>?_)
 ·have hlt:i<n:=by have:=of_decide_eq_true hlt;omega
  have w1:IntKind.i64.wrap ((i:Int)+1)=((i+1:Nat):Int):=wrap_nat (by omega)
  have hle:(rowsW ls++mks mkS i).length=l.length+i:=by rw[List.length_append,rowsW_len,mks_len,hli]
  conv=>whnf
  refine(hlot i _).mono ?_;rintro o T ⟨rfl,rfl⟩;conv=>whnf
  intro bb hbb;conv=>whnf
  refine⟨⟨(St.up hbb hF.tip).trans (congrArg (fun x=>some (Own.tip 54 10 x)) hle.symm),?_⟩,fun b2 hb2=>?_⟩
  ·show((rowsW ls++mks mkS i).length+1)*176≤_;rw[hle];omega
  have hF3:=hF.step hbb _ hb2 (show(rowsW ls++mks mkS i).length+1=l.length+i+1 by rw[hle])
  conv=>whnf
  exact⟨(i+1,b2),⟨rfl,⟨rfl,rfl⟩,rfl,congrArg (AV.sl (.own b2) 10) (show(rowsW ls++mks mkS i)++[mkS i]=rowsW ls++mks mkS (i+1) by rw[mks_succ,List.append_assoc]),congrArg _ w1,trivial⟩,⟨_,St.leW_refl _,hF3,hlt⟩,by show n-(i+1)<n-i;omega⟩
 have hlt:i=n:=by have:=of_decide_eq_false hlt;omega
 subst hlt;conv=>whnf
 refine hK _ _ ?_;clear hK hQ K;obtain⟨S₁,Km,q1,_,_,f4,f5,A,hB1,hI⟩:=hF;have hle0:=q1;have q1:=St.le_refl S₁;obtain⟨lE,hE1,hE2,hE3,hE4⟩:=hI.s.ex;have hl1:(A 8).es.length≤N+4*l.length:=by rw[hE1,List.length_map];exact hE3
 have hl2:(A 9).es.length≤N+4*l.length:=by rw[hE2,List.length_map];exact hE3
 clear hE1 hE2 hE3 hE4 lE;have hrl:=rowsW_len ls;rw[hli] at hrl;generalize hRR:rowsW ls=rows at *;have hr0:(rowsT l).length=rows.length:=by rw[rowsT_len,hrl]
 generalize rowsT l=rows0 at *;generalize hLL:l.length=LL at *;unfold rmC AccL.av at hB1;refine awp_seq2 fun K hK hQ=>?_
 conv=>whnf
 refine⟨_,_,hB1.at_,?_⟩;conv=>whnf
 intro bb hbb;have hB2:=hB1.over hbb (.tip (tyA 8) 1 1);have q2:=St.le_upd' q1 (St.le_none hB1.le hbb) (.tip (tyA 8) 1 1);clear hB1;conv=>whnf
 refine⟨⟨fun hl=>hB2.tip (j:=8) (by decide) hl,?_⟩,fun S4 c1 c2 b1 c3=>?_⟩
 ·show((A 8).es.length+1)*24≤_;omega
 have hB3:=hB2.push (j:=8) (by decide) c1 c2 c3 (.sl (.own bf) 10 (rows++mks mkS i)) rfl
 clear hB2 c1 c2 c3;conv=>whnf
 refine⟨_,_,hB3.at_,?_⟩;conv=>whnf
 refine hK _ _ ?_;clear hK hQ K;have hB4:=hB3.put (rmC (setA A 8 ((A 8).push b1 (.sl (.own bf) 10 (rows++mks mkS i)))));clear hB3;have hes:(setA A 8 ((A 8).push b1 (.sl (.own bf) 10 (rows++mks mkS i)))) 9=A 9:=rfl;change awp _ _ _ _ (St.upd _ _ (.obj 44 (rmC (setA A 8 ((A 8).push b1 (.sl (.own bf) 10 (rows++mks mkS i))))))) _;generalize hAA:setA A 8 ((A 8).push b1 (.sl (.own bf) 10 (rows++mks mkS i)))=AA at *;have hal:(AA 9).es.length≤N+4*LL:=by rw[hes];exact hl2
 unfold rmC AccL.av at hB4;refine awp_seq2 fun K hK hQ=>?_
 conv=>whnf
 refine⟨_,_,hB4.at_,?_⟩;conv=>whnf
 intro hlen;conv=>whnf
 intro bc hbc;have hB5:=hB4.over hbc (.tip 3 1 1);have q3:=St.le_upd' q2 (St.le_none hB4.le hbc) (.tip 3 1 1);clear hB4;conv=>whnf
 refine⟨⟨fun hl=>hB5.tip (j:=9) (by decide) hl,?_⟩,fun S5 c1 c2 b2 c3=>?_⟩
 ·show((AA 9).es.length+1)*8≤_;omega
 have hB6:=hB5.push (j:=9) (by decide) c1 c2 c3 (.int .i64 (rows0.length:Int)) rfl
 clear hB5 c1 c2 c3;conv=>whnf
 refine⟨_,_,hB6.at_,?_⟩;conv=>whnf
 refine hK _ _ ?_;clear hK hQ K;have hB7:=hB6.put (rmC (setA AA 9 ((AA 9).push b2 (.int .i64 (rows0.length:Int)))));clear hB6;obtain⟨d1,d2⟩:=hB7.down q3;have hinv:RmInv S₁ Km (setA AA 9 ((AA 9).push b2 (.int .i64 (rows0.length:Int)))) (N+4*LL+1):=by
  have hp:=(hI.s).push bf b1 b2 i rows (by omega)
  rw[← hr0] at hp;rw[hes,← hAA];refine⟨?_,?_,?_,?_,?_⟩<;>first | exact hp | exact hI.i.mono (Nat.le_succ _) | exact hI.t.mono (Nat.le_succ _) | exact hI.p.mono (Nat.le_succ _) | exact hI.o.mono (Nat.le_succ _) | exact hI.s.mono (Nat.le_succ _)
 conv=>whnf
 intro hlen1;conv=>whnf
 intro hlen2;conv=>whnf
 cases hz:(((rows0.length:Nat):Int) == 0 && (((rows++mks mkS i).length:Nat):Int) == 0) with
 | true=>
   have hz0:rows=[]:=by
    simp only[Bool.and_eq_true,beq_iff_eq] at hz;exact List.eq_nil_of_length_eq_zero (by omega)
   conv=>whnf
   exact⟨.sl .any 10 rows,_,⟨ls,S₁,Km,hls,by rw[hRR],hle0,f4,f5,_,d1,hinv⟩,d2,⟨rfl,hz0.symm⟩⟩
 | false=>
   conv=>whnf
   refine⟨⟨by omega,by rw[List.length_append];omega,by omega⟩,?_⟩
   conv=>whnf
   exact⟨.sl .any 10 rows,_,⟨ls,S₁,Km,hls,by rw[hRR],hle0,f4,f5,_,d1,hinv⟩,d2,⟨rfl,by rw[Int.toNat_natCast,hr0];simp⟩⟩
theorem Steps_r_ok{S₀ S:St}{Kn:Nat→Nat}{rb N:Nat}(h:Rm S₀ Kn S rb N)(l:List StepV)(hN:N+4*l.length≤1000000)(hl:∀ v∈l,v.ops.length≤100000000∧v.pieces.length≤100000000∧v.lits.length≤100000000∧v.ids.length≤100000000) :
 Triple P (C G) 8 [.ref rb 0,.sl .any 10 (rowsT l)] S fun o S'=>∃ ls S₁ Km,ls.map (·.1)=l∧o=.ret (.sl .any 10 (rowsW ls))∧St.le S₀ S₁∧(∀ x,S₀ x≠none→Km x=Kn x)∧(∀ y∈ls,StW S₀ S₁ Km y.1 y.2.1 y.2.2)∧Rm S₁ Km S' rb (N+4*l.length+1):=by
 have hs:=laySteps_ok (G:=G) h l hN hl 40 (by decide)
 refine triple_of_awp (hT G) hm Tryz.func8 rfl (by decide +kernel) rfl (by decide +kernel) (by show 2≤_;decide +kernel) rfl ?_
 conv=>whnf
 refine hs.mono ?_;rintro o T ⟨ls,S₁,Km,h2,rfl,h3⟩;conv=>whnf
 exact⟨_,_,⟨ls,S₁,Km,h2,rfl,h3⟩,St.le_refl _,AV.leS_refl _ _ _⟩
end Go.Proofs.YtogipknpafkfpaaGreatDoor.Aw

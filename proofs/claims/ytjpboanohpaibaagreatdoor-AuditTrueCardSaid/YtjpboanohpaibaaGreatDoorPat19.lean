/- The reference's check of a constraint: it answers something. Walked. Package hallmarkroom: the count of parts, its first -/
import Derived.Test.YtjpboanohpaibaaGreatDoorPat18
import Derived.Test.YtjpboanohpaibaaGreatDoorPat11
import Derived.Test.YtjpboanohpaibaaGreatDoorPat7
import Derived.Test.YtjpboanohpaibaaGreatDoorPat12
set_option linter.all false
set_option maxRecDepth 100000
set_option maxHeartbeats 8000000
namespace Go.Proofs.YtjpboanohpaibaaGreatDoor.Aw
open Go Go.RowKit
variable {G:Nat→Option (List AV)}
theorem awp_assoc{P:Program}{C:Cx}{a b c:Go.Code}{env:Env}{S:St}{Q:AExit→Env→St→Prop}:awp P C (.seq a (.seq b c)) env S Q=awp P C (.seq (.seq a b) c) env S Q:=by
 simp only[awp]
 congr 1
 funext e env' S'
 cases e<;>rfl
structure LenC (c:ConV):Prop where
 t:c.terms.length+1≤9223372036854775807
 x:c.xs.length+1≤9223372036854775807
 b:c.table.length+1≤9223372036854775807
 r:c.rows.length+1≤9223372036854775807
 e:∀ r∈c.rows,r.length+1≤9223372036854775807
theorem r4Con_t(c:ConV)(hz:LenC c)(n:Int)(S:St):Triple P (C G) 98 [.ag (rowC c),.int .i64 n] S (SomeInt S):=by
 have lt:=rowsTm_len c.terms
 have lx:=rowsI_len c.xs
 have lb:=rowsI_len c.table
 have lr:=rowsLL_len c.rows
 have hli:=fun k S=>r4lists_ok (G:=G) k S
 have hma:=fun k S=>r4many_t (G:=G) k S
 have hnu:=fun k S=>r4Number_t (G:=G) k S
 have hro:=fun S=>r4rows_t (G:=G) c hz.r S
 have hte:=fun n S=>r4terms_t (G:=G) c.terms hz.t n S
 have hpl:=fun n S=>r4places_t (G:=G) c hz.x n S
 have hfo:=fun h S=>r4foreign_t (G:=G) c h S
 refine triple_of_awp (hT G) hm Tryz.func98 rfl (by decide +kernel) rfl (by decide +kernel) (by show 2≤_;decide +kernel) rfl ?_
 refine awp_seq2 fun K hK hQ=>?_
 conv=>whnf
 intro b2 hb2;conv=>whnf
 have q2:=St.upd_same S b2 (.obj 51 (rowC c))
 have hle:=St.le_upd' (St.le_refl S) hb2 (.obj 51 (rowC c))
 refine hK _ _ ?_;clear hK hQ K;change awp _ _ _ _ (S.upd b2 (.obj 51 (rowC c))) _;generalize S.upd b2 (.obj 51 (rowC c))=T at *;rw[awp_assoc,awp_assoc,awp_assoc];refine awp_seq2 fun K hK hQ=>?_
 have hrest:∀ env:Env,look 1 env=.int .i64 n→look 2 env=.ref b2 0→K .normal env T:=fun env e1 e2=>by
  refine hK _ _ ?_;clear hK hQ K;refine awp_seq2 fun K hK hQ=>?_
  conv=>whnf
  -- a temporary of the part that is told by facts alone: 2 which,e2 the fact
  generalize hx:ev (C G) _ (Operand.tmp 2)=x0;obtain rfl:=hx.symm.trans e2;clear hx;conv=>whnf
  refine⟨_,_,q2,?_⟩;conv=>whnf
  -- a temporary of the part that is told by facts alone: 1 which,e1 the fact
  generalize hx:ev (C G) _ (Operand.tmp 1)=x0;obtain rfl:=hx.symm.trans e1;clear hx;conv=>whnf
  refine(hte _ _).mono ?_;rintro o T1 ⟨⟨e,rfl⟩,rfl⟩;conv=>whnf
  refine hK _ _ ?_;clear hK hQ K;refine awp_seq2 fun K hK hQ=>?_
  conv=>whnf
  -- a temporary of the part that is told by facts alone: 2 which,e2 the fact
  generalize hx:ev (C G) _ (Operand.tmp 2)=x0;obtain rfl:=hx.symm.trans e2;clear hx;conv=>whnf
  refine⟨_,_,q2,?_⟩;conv=>whnf
  -- a temporary of the part that is told by facts alone: 1 which,e1 the fact
  generalize hx:ev (C G) _ (Operand.tmp 1)=x0;obtain rfl:=hx.symm.trans e1;clear hx;conv=>whnf
  refine(hpl _ _).mono ?_;rintro o T2 ⟨⟨b,rfl⟩,rfl⟩
  cases b with
  | false=>
    conv=>whnf
    refine hQ _ _ _ (by simp) ?_
    conv=>whnf
    exact⟨_,_,⟨⟨_,rfl⟩,rfl⟩,hle,AV.leS_refl _ _ _⟩
  | true=>
    conv=>whnf
    refine split_of (fun _=>?_) (fun _=>?_)
    ·skip
     conv=>whnf
     refine hQ _ _ _ (by simp) ?_
     conv=>whnf
     exact⟨_,_,⟨⟨_,rfl⟩,rfl⟩,hle,AV.leS_refl _ _ _⟩
    conv=>whnf
    refine hK _ _ ?_;clear hK hQ K;refine awp_seq2 fun K hK hQ=>?_
    conv=>whnf
    refine split_of (fun _=>?_) (fun _=>?_)
    ·skip
     conv=>whnf
     refine hQ _ _ _ (by simp) ?_
     conv=>whnf
     exact⟨_,_,⟨⟨_,rfl⟩,rfl⟩,hle,AV.leS_refl _ _ _⟩
    conv=>whnf
    refine hK _ _ ?_;clear hK hQ K;refine awp_seq2 fun K hK hQ=>?_
    conv=>whnf
    -- a temporary of the part that is told by facts alone: 2 which,e2 the fact
    generalize hx:ev (C G) _ (Operand.tmp 2)=x0;obtain rfl:=hx.symm.trans e2;clear hx;conv=>whnf
    refine⟨_,_,q2,?_⟩;conv=>whnf
    refine(hnu _ _).mono ?_;rintro o T1 ⟨⟨b1,rfl⟩,rfl⟩
    cases b1 with
    | false=>
      conv=>whnf
      refine hQ _ _ _ (by simp) ?_
      conv=>whnf
      exact⟨_,_,⟨⟨_,rfl⟩,rfl⟩,hle,AV.leS_refl _ _ _⟩
    | true=>
      conv=>whnf
      -- a temporary of the part that is told by facts alone: 2 which,e2 the fact
      generalize hx:ev (C G) _ (Operand.tmp 2)=x0;obtain rfl:=hx.symm.trans e2;clear hx;conv=>whnf
      refine⟨_,_,q2,?_⟩;conv=>whnf
      refine(hnu _ _).mono ?_;rintro o T2 ⟨⟨b2',rfl⟩,rfl⟩
      cases b2' with
      | false=>
        conv=>whnf
        refine hQ _ _ _ (by simp) ?_
        conv=>whnf
        exact⟨_,_,⟨⟨_,rfl⟩,rfl⟩,hle,AV.leS_refl _ _ _⟩
      | true=>
        conv=>whnf
        refine hK _ _ ?_;clear hK hQ K;refine awp_seq2 fun K hK hQ=>?_
        conv=>whnf
        refine⟨⟨Nat,fun i=>[(1,.int .i64 n),(2,.ref b2 0),(7,.int .i64 (i:Int))],fun i S1=>S1=T2∧i≤c.rows.length,fun i=>c.rows.length-i⟩,
         ⟨0,⟨by show AV.le (look 1 env) _;rw[e1];rfl,by show AV.le (look 2 env) _;rw[e2];rfl,rfl,trivial⟩,_,St.leW_refl _,rfl,Nat.zero_le _⟩,?_⟩
        clear e1 e2;rintro(i:Nat) S1 ⟨rfl,hi⟩;conv=>whnf
        refine⟨_,_,q2,?_⟩;conv=>whnf
        intro _;rw[lr];conv=>whnf
        refine split_of (fun hlt=>?_) (fun hlt=>?_)
        ·have hlt:i<c.rows.length:=by have:=of_decide_eq_true hlt;omega
         have ga:(rowsLL c.rows)[(i:Int).toNat]? = some [.sl .any 1 (rowsI c.rows[i])]:=by simp[rowsLL,hlt]
         have hre:=hz.e _ (List.getElem_mem hlt)
         have w1:IntKind.i64.wrap ((i:Int)+1)=((i+1:Nat):Int):=wrap_nat (by omega)
         generalize c.rows[i]=r at *;have lrr:=rowsI_len r;conv=>whnf
         refine⟨⟨Nat,fun j=>[(1,.int .i64 n),(2,.ref b2 0),(7,.int .i64 (i:Int)),(8,.int .i64 (j:Int))],fun j S2=>S2=S1∧j≤r.length,fun j=>r.length-j⟩,
          ⟨0,⟨rfl,rfl,rfl,rfl,trivial⟩,_,St.leW_refl _,rfl,Nat.zero_le _⟩,?_⟩
         rintro(j:Nat) S2 ⟨rfl,hj⟩;conv=>whnf
         refine⟨_,_,q2,?_⟩;conv=>whnf
         refine⟨_,⟨by omega,ga⟩,?_⟩
         conv=>whnf
         intro _;rw[lrr];conv=>whnf
         refine split_of (fun hlt2=>?_) (fun hlt2=>?_)
         ·have hlt2:j<r.length:=by have:=of_decide_eq_true hlt2;omega
          have gb:(rowsI r)[(j:Int).toNat]? = some [.int .i64 r[j]]:=by simp[rowsI,hlt2]
          have w2:IntKind.i64.wrap ((j:Int)+1)=((j+1:Nat):Int):=wrap_nat (by omega)
          generalize r[j]=y at *;conv=>whnf
          refine⟨_,_,q2,?_⟩;conv=>whnf
          refine⟨_,⟨by omega,ga⟩,?_⟩
          conv=>whnf
          refine⟨_,⟨by omega,gb⟩,?_⟩
          conv=>whnf
          refine(hnu _ _).mono ?_;rintro o T1 ⟨⟨b1,rfl⟩,rfl⟩
          cases b1 with
          | false=>
            conv=>whnf
            refine hQ _ _ _ (by simp) ?_
            conv=>whnf
            exact⟨_,_,⟨⟨_,rfl⟩,rfl⟩,hle,AV.leS_refl _ _ _⟩
          | true=>
            conv=>whnf
            exact⟨j+1,⟨rfl,rfl,rfl,congrArg _ w2,trivial⟩,⟨_,St.leW_refl _,rfl,hlt2⟩,by show r.length-(j+1)<r.length-j;omega⟩
         ·skip
          conv=>whnf
          exact⟨i+1,⟨rfl,rfl,congrArg _ w1,trivial⟩,⟨_,St.leW_refl _,rfl,hlt⟩,by show c.rows.length-(i+1)<c.rows.length-i;omega⟩
        ·refine hK _ _ ?_;clear hK hQ K;refine awp_seq2 fun K hK hQ=>?_
         conv=>whnf
         refine⟨⟨Nat,fun i=>[(2,.ref b2 0),(9,.int .i64 (i:Int))],fun i S2=>S2=S1∧i≤c.table.length,fun i=>c.table.length-i⟩,
          ⟨0,⟨rfl,rfl,trivial⟩,_,St.leW_refl _,rfl,Nat.zero_le _⟩,?_⟩
         clear hlt hi i;rintro(i:Nat) S2 ⟨rfl,hi⟩;conv=>whnf
         refine⟨_,_,q2,?_⟩;conv=>whnf
         intro _;rw[lb];conv=>whnf
         refine split_of (fun hlt=>?_) (fun hlt=>?_)
         ·have hlt:i<c.table.length:=by have:=of_decide_eq_true hlt;omega
          have ga:(rowsI c.table)[(i:Int).toNat]? = some [.int .i64 c.table[i]]:=by simp[rowsI,hlt]
          have hzb:=hz.b
          have w1:IntKind.i64.wrap ((i:Int)+1)=((i+1:Nat):Int):=wrap_nat (by omega)
          generalize c.table[i]=y at *;conv=>whnf
          refine⟨_,_,q2,?_⟩;conv=>whnf
          refine⟨_,⟨by omega,ga⟩,?_⟩
          conv=>whnf
          refine(hnu _ _).mono ?_;rintro o T1 ⟨⟨b1,rfl⟩,rfl⟩
          cases b1 with
          | false=>
            conv=>whnf
            refine hQ _ _ _ (by simp) ?_
            conv=>whnf
            exact⟨_,_,⟨⟨_,rfl⟩,rfl⟩,hle,AV.leS_refl _ _ _⟩
          | true=>
            conv=>whnf
            exact⟨i+1,⟨rfl,congrArg _ w1,trivial⟩,⟨_,St.leW_refl _,rfl,hlt⟩,by show c.table.length-(i+1)<c.table.length-i;omega⟩
         ·refine hK _ _ ?_;clear hK hQ K;conv=>whnf
          exact⟨_,_,⟨⟨_,rfl⟩,rfl⟩,hle,AV.leS_refl _ _ _⟩
 clear hK
 by_cases hk:1≤c.kind∧c.kind≤9
 rotate_left
 ·refine awp_seq2 fun K2 hK2 hQ2=>?_
  refine awp_seq2 fun K3 hK3 hQ3=>?_
  refine awp_seq2 fun K4 hK4 hQ4=>?_
  have hout:∀ env,K4 .ret ((4,.int .i64 43)::env) T:=fun env=>by
   refine hQ4 _ _ _ (by simp) ?_
   refine hQ3 _ _ _ (by simp) ?_
   refine hQ2 _ _ _ (by simp) ?_
   conv=>whnf
   refine hQ _ _ _ (by simp) ?_
   conv=>whnf
   exact⟨_,_,⟨⟨_,rfl⟩,rfl⟩,hle,AV.leS_refl _ _ _⟩
  refine awp_seq2 fun K5 hK5 hQ5=>?_
  refine awp_region ?_;refine aOps_cut 4 fun K' hK'=>?_
  conv=>whnf
  refine⟨_,_,q2,?_⟩;conv=>whnf
  refine hK' _ _ ?_;clear hK' K';refine aOps_cut 5 fun K' hK'=>?_
  conv=>whnf
  refine split_of (fun h1=>?_) (fun h1=>?_)
  ·skip
   conv=>whnf
   refine hK' _ _ ?_;clear hK' K';refine aOps_cut 7 fun K' hK'=>?_
   conv=>whnf
   refine hK' _ _ ?_;clear hK' K';refine aOps_cut 6 fun K' hK'=>?_
   conv=>whnf
   refine hK' _ _ ?_;clear hK' K';conv=>whnf
   refine hK5 _ _ ?_;conv=>whnf
   exact hout _
  conv=>whnf
  refine⟨_,_,q2,?_⟩;conv=>whnf
  refine hK' _ _ ?_;clear hK' K';refine aOps_cut 2 fun K' hK'=>?_
  conv=>whnf
  refine split_of (fun h2=>?_) (fun h2=>?_)
  ·skip
   conv=>whnf
   refine hK' _ _ ?_;clear hK' K';refine aOps_cut 5 fun K' hK'=>?_
   conv=>whnf
   refine hK' _ _ ?_;clear hK' K';refine aOps_cut 6 fun K' hK'=>?_
   conv=>whnf
   refine hK' _ _ ?_;clear hK' K';conv=>whnf
   refine hK5 _ _ ?_;conv=>whnf
   exact hout _
  ·exact absurd (And.intro (by have:=of_decide_eq_false h1;omega) (by have:=of_decide_eq_false h2;omega)) hk
 have hf:=fun S=>hfo hk S
 have hkk:c.kind=1∨c.kind=2∨c.kind=3∨c.kind=4∨c.kind=5∨c.kind=6∨c.kind=7∨c.kind=8∨c.kind=9:=by omega
 clear hfo hk hte hpl hnu;unfold rowC at q2 hf hro
 rcases hkk with h | h | h | h | h | h | h | h | h
 all_goals (rw[h] at q2 hf hro)
 all_goals (clear h)
 all_goals (refine awp_seq2 fun K2 hK2 hQ2=>?_)
 all_goals (refine awp_seq2 fun K3 hK3 hQ3=>?_)
 all_goals (refine awp_seq2 fun K4 hK4 hQ4=>?_)
 all_goals (refine awp_seq2 fun K5 hK5 hQ5=>?_)
 all_goals (refine awp_region ?_)
 all_goals (refine aOps_cut 6 fun K' hK'=>?_)
 all_goals (conv=>whnf)
 all_goals (repeat' first | (refine⟨_,_,q2,?_⟩;conv=>whnf) | (refine split_of (fun _=>?_) (fun _=>?_)<;>conv=>whnf))
 all_goals (refine hK' _ _ ?_)
 all_goals (clear hK' K')
 all_goals (refine aOps_cut 6 fun K' hK'=>?_)
 all_goals (conv=>whnf)
 all_goals (repeat' first | (refine⟨_,_,q2,?_⟩;conv=>whnf) | (refine split_of (fun _=>?_) (fun _=>?_)<;>conv=>whnf))
 all_goals (refine hK' _ _ ?_)
 all_goals (clear hK' K')
 all_goals (refine aOps_cut 6 fun K' hK'=>?_)
 all_goals (conv=>whnf)
 all_goals (repeat' first | (refine⟨_,_,q2,?_⟩;conv=>whnf) | (refine split_of (fun _=>?_) (fun _=>?_)<;>conv=>whnf))
 all_goals (refine hK' _ _ ?_)
 all_goals (clear hK' K')
 all_goals (refine aOps_cut 6 fun K' hK'=>?_)
 all_goals (conv=>whnf)
 all_goals (repeat' first | (refine⟨_,_,q2,?_⟩;conv=>whnf) | (refine split_of (fun _=>?_) (fun _=>?_)<;>conv=>whnf))
 all_goals (refine hK' _ _ ?_)
 all_goals (clear hK' K')
 all_goals (conv=>whnf)
 all_goals (repeat' first | (refine⟨_,_,q2,?_⟩;conv=>whnf) | (refine split_of (fun _=>?_) (fun _=>?_)<;>conv=>whnf))
 skip
 all_goals (refine hK5 _ _ ?_)
 all_goals (clear hK5 hQ5 K5)
 all_goals (conv=>whnf)
 all_goals (repeat' first | (refine split_of (fun _=>?_) (fun _=>?_)<;>conv=>whnf))
 all_goals (first | (refine hK4 _ _ ?_) | (refine hQ4 _ _ _ (by simp) ?_;refine hQ3 _ _ _ (by simp) ?_;refine hQ2 _ _ _ (by simp) ?_;refine hQ _ _ _ (by simp) ?_;(conv=>whnf);exact⟨_,_,⟨⟨_,rfl⟩,rfl⟩,hle,AV.leS_refl _ _ _⟩))
 all_goals (clear hK4 hQ4 K4)
 all_goals (conv=>whnf)
 all_goals (refine⟨_,_,q2,?_⟩)
 all_goals (conv=>whnf)
 all_goals (refine(hf _).mono ?_)
 all_goals (rintro o T' ⟨⟨bf,rfl⟩,rfl⟩)
 all_goals (cases bf)
 all_goals (conv=>whnf)
 all_goals (first | (refine hK3 _ _ ?_) | (refine hQ3 _ _ _ (by simp) ?_;refine hQ2 _ _ _ (by simp) ?_;refine hQ _ _ _ (by simp) ?_;(conv=>whnf);exact⟨_,_,⟨⟨_,rfl⟩,rfl⟩,hle,AV.leS_refl _ _ _⟩))
 all_goals (clear hK3 hQ3 K3)
 all_goals (conv=>whnf)
 all_goals (repeat' first | (refine⟨_,_,q2,?_⟩;conv=>whnf))
 all_goals (refine hK2 _ _ ?_)
 all_goals (clear hK2 hQ2 K2)
 all_goals (refine awp_seq2 fun K5 hK5 hQ5=>?_)
 all_goals (refine awp_region ?_)
 all_goals (refine aOps_cut 6 fun K' hK'=>?_)
 all_goals (conv=>whnf)
 all_goals (repeat' first | (refine⟨_,_,q2,?_⟩;conv=>whnf) | (refine split_of (fun _=>?_) (fun _=>?_)<;>conv=>whnf) | (intro _;conv=>whnf) | (refine(hli _ _).mono ?_;rintro o T1 ⟨rfl,rfl⟩;conv=>whnf) | (refine(hma _ _).mono ?_;rintro o T1 ⟨⟨bb,rfl⟩,rfl⟩;conv=>whnf) | (refine(hro _).mono ?_;rintro o T1 ⟨⟨bb,rfl⟩,rfl⟩;conv=>whnf))
 all_goals (refine hK' _ _ ?_)
 all_goals (clear hK' K')
 all_goals (refine aOps_cut 6 fun K' hK'=>?_)
 all_goals (conv=>whnf)
 all_goals (repeat' first | (refine⟨_,_,q2,?_⟩;conv=>whnf) | (refine split_of (fun _=>?_) (fun _=>?_)<;>conv=>whnf) | (intro _;conv=>whnf) | (refine(hli _ _).mono ?_;rintro o T1 ⟨rfl,rfl⟩;conv=>whnf) | (refine(hma _ _).mono ?_;rintro o T1 ⟨⟨bb,rfl⟩,rfl⟩;conv=>whnf) | (refine(hro _).mono ?_;rintro o T1 ⟨⟨bb,rfl⟩,rfl⟩;conv=>whnf))
 all_goals (refine hK' _ _ ?_)
 all_goals (clear hK' K')
 all_goals (refine aOps_cut 6 fun K' hK'=>?_)
 all_goals (conv=>whnf)
 all_goals (repeat' first | (refine⟨_,_,q2,?_⟩;conv=>whnf) | (refine split_of (fun _=>?_) (fun _=>?_)<;>conv=>whnf) | (intro _;conv=>whnf) | (refine(hli _ _).mono ?_;rintro o T1 ⟨rfl,rfl⟩;conv=>whnf) | (refine(hma _ _).mono ?_;rintro o T1 ⟨⟨bb,rfl⟩,rfl⟩;conv=>whnf) | (refine(hro _).mono ?_;rintro o T1 ⟨⟨bb,rfl⟩,rfl⟩;conv=>whnf))
 all_goals (refine hK' _ _ ?_)
 all_goals (clear hK' K')
 all_goals (refine aOps_cut 6 fun K' hK'=>?_)
 all_goals (conv=>whnf)
 all_goals (repeat' first | (refine⟨_,_,q2,?_⟩;conv=>whnf) | (refine split_of (fun _=>?_) (fun _=>?_)<;>conv=>whnf) | (intro _;conv=>whnf) | (refine(hli _ _).mono ?_;rintro o T1 ⟨rfl,rfl⟩;conv=>whnf) | (refine(hma _ _).mono ?_;rintro o T1 ⟨⟨bb,rfl⟩,rfl⟩;conv=>whnf) | (refine(hro _).mono ?_;rintro o T1 ⟨⟨bb,rfl⟩,rfl⟩;conv=>whnf))
 all_goals (refine hK' _ _ ?_)
 all_goals (clear hK' K')
 all_goals (refine aOps_cut 6 fun K' hK'=>?_)
 all_goals (conv=>whnf)
 all_goals (repeat' first | (refine⟨_,_,q2,?_⟩;conv=>whnf) | (refine split_of (fun _=>?_) (fun _=>?_)<;>conv=>whnf) | (intro _;conv=>whnf) | (refine(hli _ _).mono ?_;rintro o T1 ⟨rfl,rfl⟩;conv=>whnf) | (refine(hma _ _).mono ?_;rintro o T1 ⟨⟨bb,rfl⟩,rfl⟩;conv=>whnf) | (refine(hro _).mono ?_;rintro o T1 ⟨⟨bb,rfl⟩,rfl⟩;conv=>whnf))
 all_goals (refine hK' _ _ ?_)
 all_goals (clear hK' K')
 all_goals (refine aOps_cut 6 fun K' hK'=>?_)
 all_goals (conv=>whnf)
 all_goals (repeat' first | (refine⟨_,_,q2,?_⟩;conv=>whnf) | (refine split_of (fun _=>?_) (fun _=>?_)<;>conv=>whnf) | (intro _;conv=>whnf) | (refine(hli _ _).mono ?_;rintro o T1 ⟨rfl,rfl⟩;conv=>whnf) | (refine(hma _ _).mono ?_;rintro o T1 ⟨⟨bb,rfl⟩,rfl⟩;conv=>whnf) | (refine(hro _).mono ?_;rintro o T1 ⟨⟨bb,rfl⟩,rfl⟩;conv=>whnf))
 all_goals (refine hK' _ _ ?_)
 all_goals (clear hK' K')
 all_goals (conv=>whnf)
 all_goals (repeat' first | (refine⟨_,_,q2,?_⟩;conv=>whnf) | (refine split_of (fun _=>?_) (fun _=>?_)<;>conv=>whnf) | (intro _;conv=>whnf) | (refine(hli _ _).mono ?_;rintro o T1 ⟨rfl,rfl⟩;conv=>whnf) | (refine(hma _ _).mono ?_;rintro o T1 ⟨⟨bb,rfl⟩,rfl⟩;conv=>whnf) | (refine(hro _).mono ?_;rintro o T1 ⟨⟨bb,rfl⟩,rfl⟩;conv=>whnf))
 skip
 all_goals (refine hK5 _ _ ?_)
 all_goals (clear hK5 hQ5 K5)
 all_goals (conv=>whnf)
 all_goals (repeat' first | (refine split_of (fun _=>?_) (fun _=>?_)<;>conv=>whnf))
 all_goals (first | (exact hrest _ rfl rfl) | (refine hQ _ _ _ (by simp) ?_;(conv=>whnf);exact⟨_,_,⟨⟨_,rfl⟩,rfl⟩,hle,AV.leS_refl _ _ _⟩))
def cnt(x n:Int):Int:=if 0≤x then x-n else x
def OkC(x:Int):Prop:=-9223372036854775808≤x∧x≤1000000000
theorem cnt_ok{x n:Int}(h:OkC x)(h0:0≤n)(h1:n≤9223372036854775807):OkC (cnt x n):=by
 unfold OkC cnt at *
 split<;>omega
def CntAt(S:St)(b:Nat)(x:Int):Prop:=S b=some (.obj 101 [.int .i64 x])
theorem CMany_ok(n:Int)(S:St):Triple P (C G) 23 [.int .i64 n] S fun o S'=>∃ b,S b=none∧o=.ret (.ref b 0)∧S'=S.upd b (.obj 101 [.int .i64 n]):=by
 refine triple_of_awp (hT G) hm Tryz.func23 rfl (by decide +kernel) rfl (by decide +kernel) (by show 1≤_;decide +kernel) rfl ?_
 conv=>whnf
 intro b hb;conv=>whnf
 exact⟨_,_,⟨b,hb,rfl,rfl⟩,St.le_refl _,AV.leS_refl _ _ _⟩
theorem COk_ok{S:St}{b:Nat}{x:Int}(h:CntAt S b x):Triple P (C G) 25 [.ref b 0] S fun o S'=>o=.ret (.bool (decide (0≤x)))∧S'=S:=by
 unfold CntAt at h;refine triple_of_awp (hT G) hm Tryz.func25 rfl (by decide +kernel) rfl (by decide +kernel) (by show 1≤_;decide +kernel) rfl ?_
 conv=>whnf
 refine⟨_,_,h,?_⟩;conv=>whnf
 exact⟨_,_,⟨rfl,rfl⟩,St.le_refl _,AV.leS_refl _ _ _⟩
theorem CAdd_ok{S:St}{b:Nat}{x:Int}(h:CntAt S b x)(hx:OkC x)(n:Int)(h0:0≤n)(h1:n≤9223372036854775807):Triple P (C G) 49 [.ref b 0,.int .i64 n] S fun o S'=>(∃ r,o=.ret (.bool r))∧S'=S.upd b (.obj 101 [.int .i64 (cnt x n)]):=by
 have hw:0≤x→IntKind.i64.wrap (x-n)=x-n:=fun hp=>wrap_i64 (by omega) (by unfold OkC at hx;omega)
 unfold CntAt at h;unfold cnt
 by_cases hp:0≤x
 ·rw[if_pos hp];have hw:=hw hp;refine triple_of_awp (hT G) hm Tryz.func49 rfl (by decide +kernel) rfl (by decide +kernel) (by show 2≤_;decide +kernel) rfl ?_
  refine awp_seq2 fun K hK hQ=>?_
  conv=>whnf
  refine hK _ _ ?_;clear hK hQ K;refine awp_seq2 fun K hK hQ=>?_
  conv=>whnf
  refine⟨_,_,h,?_⟩;conv=>whnf
  refine split_of (fun _=>?_) (fun hh=>absurd hp (of_decide_eq_false hh))
  conv=>whnf
  refine⟨_,_,h,?_⟩;conv=>whnf
  refine⟨_,_,h,?_⟩;conv=>whnf
  rw[hw];refine hK _ _ ?_;clear hK hQ K;conv=>whnf
  refine⟨_,_,St.upd_same _ _ _,?_⟩;conv=>whnf
  exact⟨_,_,⟨⟨_,rfl⟩,rfl⟩,St.le_refl _,AV.leS_refl _ _ _⟩
 ·rw[if_neg hp];refine triple_of_awp (hT G) hm Tryz.func49 rfl (by decide +kernel) rfl (by decide +kernel) (by show 2≤_;decide +kernel) rfl ?_
  refine awp_seq2 fun K hK hQ=>?_
  conv=>whnf
  refine hK _ _ ?_;clear hK hQ K;refine awp_seq2 fun K hK hQ=>?_
  conv=>whnf
  refine⟨_,_,h,?_⟩;conv=>whnf
  refine split_of (fun hh=>absurd (of_decide_eq_true hh) hp) (fun _=>?_)
  conv=>whnf
  refine hK _ _ ?_;clear hK hQ K;conv=>whnf
  refine⟨_,_,h,?_⟩;conv=>whnf
  exact⟨_,_,⟨⟨_,rfl⟩,by rw[St.upd_self h]⟩,St.le_refl _,AV.leS_refl _ _ _⟩
def cntT(x:Int)(s:ByteArray):Int:=cnt (cnt x 1) s.size
theorem cntT_ok{x:Int}(h:OkC x)(s:ByteArray)(hs:s.size≤9223372036854775807):OkC (cntT x s):=cnt_ok (cnt_ok h (by omega) (by omega)) (by omega) (by omega)
theorem Text_c{S:St}{b:Nat}{x:Int}(h:CntAt S b x)(hx:OkC x)(s:ByteArray)(hs:s.size≤9223372036854775807):Triple P (C G) 47 [.ref b 0,.str s] S fun o S'=>o=.ret (.tu [])∧S'=S.upd b (.obj 101 [.int .i64 (cntT x s)]):=by
 have a1:=CAdd_ok (G:=G) h hx 1 (by omega) (by omega)
 have h1:CntAt (S.upd b (.obj 101 [.int .i64 (cnt x 1)])) b (cnt x 1):=St.upd_same _ _ _
 have a2:=CAdd_ok (G:=G) h1 (cnt_ok hx (by omega) (by omega)) s.size (by omega) (by omega)
 rw[St.upd_upd] at a2;unfold cntT;generalize cnt (cnt x 1) s.size=z at *;refine triple_of_awp (hT G) hm Tryz.func47 rfl (by decide +kernel) rfl (by decide +kernel) (by show 2≤_;decide +kernel) rfl ?_
 refine awp_seq2 fun K hK hQ=>?_
 conv=>whnf
 refine a1.mono ?_;rintro o T ⟨⟨r,rfl⟩,rfl⟩;conv=>whnf
 refine hK _ _ ?_;clear hK hQ K;conv=>whnf
 refine a2.mono ?_;rintro o T ⟨⟨r,rfl⟩,rfl⟩;conv=>whnf
 exact⟨_,_,⟨rfl,rfl⟩,St.le_refl _,AV.leS_refl _ _ _⟩
def CntQ(S:St)(b:Nat)(o:Out)(S':St):Prop:=o=.ret (.tu [])∧∃ z,OkC z∧S'=S.upd b (.obj 101 [.int .i64 z])
theorem Lists_q{S:St}{b:Nat}{x:Int}(h:CntAt S b x)(hx:OkC x)(l:List (List Int))(hl:l.length+1≤9223372036854775807)(hs:∀ r∈l,r.length≤9223372036854775807):Triple P (C G) 60 [.ref b 0,.sl .any 1 (rowsLL l)] S (CntQ S b):=by
 have ll:=rowsLL_len l
 refine triple_of_awp (hT G) hm Tryz.func60 rfl (by decide +kernel) rfl (by decide +kernel) (by show 2≤_;decide +kernel) rfl ?_
 conv=>whnf
 refine⟨⟨Nat×Int,fun z=>[(0,.ref b 0),(1,.sl .any 1 (rowsLL l)),(4,.int .i64 (z.1:Int))],
  fun z S'=>S'=S.upd b (.obj 101 [.int .i64 z.2])∧OkC z.2∧z.1≤l.length,fun z=>l.length-z.1⟩,
  ⟨(0,x),⟨rfl,⟨rfl,rfl⟩,rfl,trivial⟩,_,St.leW_refl _,(St.upd_self h).symm,hx,by omega⟩,?_⟩
 rintro⟨i,y⟩ S' ⟨rfl,hy,hi⟩;dsimp only at hy hi;have h':CntAt (S.upd b (.obj 101 [.int .i64 y])) b y:=St.upd_same _ _ _;have hok:=COk_ok (G:=G) h';conv=>whnf
 intro _;rw[ll];conv=>whnf
 refine split_of (fun hlt=>?_) (fun hlt=>?_)
 ·have hlt:i<l.length:=by have:=of_decide_eq_true hlt;omega
  have ga:(rowsLL l)[(i:Int).toNat]? = some [.sl .any 1 (rowsI l[i])]:=by simp[rowsLL,hlt]
  have hri:=hs _ (List.getElem_mem hlt)
  have a1:=CAdd_ok (G:=G) h' hy 1 (by omega) (by omega)
  have o1:=cnt_ok hy (n:=1) (by omega) (by omega)
  rw[St.upd_upd] at a1;have h1:CntAt (S.upd b (.obj 101 [.int .i64 (cnt y 1)])) b (cnt y 1):=St.upd_same _ _ _;have a2:=CAdd_ok (G:=G) h1 o1 ((l[i]).length:Int) (by omega) (by omega)
  have o2:=cnt_ok o1 (n:=((l[i]).length:Int)) (by omega) (by omega)
  rw[St.upd_upd] at a2;have lr:=rowsI_len l[i];generalize l[i]=r at *;have w1:IntKind.i64.wrap ((i:Int)+1)=((i+1:Nat):Int):=wrap_nat (by omega)
  conv=>whnf
  refine hok.mono ?_;rintro o T ⟨rfl,rfl⟩;conv=>whnf
  refine split_of (fun hp=>?_) (fun hp=>?_)
  ·skip
   conv=>whnf
   refine a1.mono ?_;rintro o T ⟨⟨q,rfl⟩,rfl⟩;conv=>whnf
   refine⟨_,⟨by omega,ga⟩,?_⟩
   conv=>whnf
   intro _;rw[lr];conv=>whnf
   refine a2.mono ?_;rintro o T ⟨⟨q2,rfl⟩,rfl⟩;conv=>whnf
   exact⟨(i+1,_),⟨rfl,⟨rfl,rfl⟩,congrArg _ w1,trivial⟩,⟨_,St.leW_refl _,rfl,o2,hlt⟩,by show l.length-(i+1)<l.length-i;omega⟩
  ·skip
   conv=>whnf
   exact⟨_,_,⟨rfl,_,hy,rfl⟩,St.le_refl _,AV.leS_refl _ _ _⟩
 ·skip
  conv=>whnf
  exact⟨_,_,⟨rfl,_,hy,rfl⟩,St.le_refl _,AV.leS_refl _ _ _⟩
structure LenCon (c:ConV):Prop where
 t:c.terms.length≤9223372036854775806
 x:c.xs.length≤9223372036854775806
 b:c.table.length≤9223372036854775806
 r:c.rows.length≤9223372036854775806
 e:∀ r∈c.rows,r.length≤9223372036854775806
theorem lenCon_of{m:ModelV}(hz:SzC m)(c:ConV)(hc:c∈m.cons):LenCon c:=by
 obtain⟨h1,h2,h3,h4,h5⟩:=hz.l c hc;exact⟨by omega,by omega,by omega,by omega,fun r hr=>by have:=h5 r hr;omega⟩
theorem Con_q{S:St}{b:Nat}{x:Int}(h:CntAt S b x)(hx:OkC x)(c:ConV)(hz:LenCon c):Triple P (C G) 48 [.ref b 0,.ag (rowC c)] S (CntQ S b):=by
 have l1:=rowsTm_len c.terms
 have l2:=rowsI_len c.xs
 have l3:=rowsI_len c.table
 have z1:=hz.t
 have z2:=hz.x
 have z3:=hz.b
 refine triple_of_awp (hT G) hm Tryz.func48 rfl (by decide +kernel) rfl (by decide +kernel) (by show 2≤_;decide +kernel) rfl ?_
 refine awp_seq2 fun K hK hQ=>?_
 conv=>whnf
 intro b3 hb3;conv=>whnf
 refine hK _ _ ?_;clear hK hQ K;have hne:b≠b3:=St.ne_of hb3 h;change awp _ _ _ _ (S.upd b3 (.obj 51 (rowC c))) _;generalize hS1:S.upd b3 (.obj 51 (rowC c))=S1;have q3:S1 b3=some (.obj 51 (rowC c)):=by rw[← hS1];exact St.upd_same _ _ _
 have h1:CntAt S1 b x:=by rw[← hS1];exact St.up hb3 h
 have hend:∀ z:Int,St.le (S.upd b (.obj 101 [.int .i64 z])) (S1.upd b (.obj 101 [.int .i64 z])):=fun z=>by
  rw[← hS1];exact St.le_upd2 (St.le_upd' (St.le_refl _) hb3 _) _ _
 have hc:∀ z:Int,CntAt (S1.upd b (.obj 101 [.int .i64 z])) b z:=fun z=>St.upd_same _ _ _
 have hq:∀ z:Int,(S1.upd b (.obj 101 [.int .i64 z])) b3=some (.obj 51 (rowC c)):=fun z=>St.ov (Ne.symm hne) q3
 have a0:=CAdd_ok (G:=G) h1 hx 1 (by omega) (by omega)
 have o0:=cnt_ok hx (n:=1) (by omega) (by omega)
 generalize cnt x 1=y0 at *;have a1:=CAdd_ok (G:=G) (hc _) o0 (c.terms.length:Int) (by omega) (by omega)
 have o1:=cnt_ok o0 (n:=(c.terms.length:Int)) (by omega) (by omega)
 rw[St.upd_upd] at a1;generalize cnt y0 c.terms.length=y1 at *;have a2:=CAdd_ok (G:=G) (hc _) o1 (c.xs.length:Int) (by omega) (by omega)
 have o2:=cnt_ok o1 (n:=(c.xs.length:Int)) (by omega) (by omega)
 rw[St.upd_upd] at a2;generalize cnt y1 c.xs.length=y2 at *;have a3:=CAdd_ok (G:=G) (hc _) o2 (c.table.length:Int) (by omega) (by omega)
 have o3:=cnt_ok o2 (n:=(c.table.length:Int)) (by omega) (by omega)
 rw[St.upd_upd] at a3;generalize cnt y2 c.table.length=y3 at *;have a4:=Lists_q (G:=G) (hc _) o3 c.rows (by have:=hz.r;omega) (fun r hr=>by have:=hz.e r hr;omega)
 refine awp_seq2 fun K hK hQ=>?_
 conv=>whnf
 refine a0.mono ?_;rintro o T ⟨⟨q,rfl⟩,rfl⟩;conv=>whnf
 refine hK _ _ ?_;clear hK hQ K;refine awp_seq2 fun K hK hQ=>?_
 conv=>whnf
 refine⟨_,_,hq _,?_⟩;conv=>whnf
 intro _;rw[l1];conv=>whnf
 refine a1.mono ?_;rintro o T ⟨⟨q,rfl⟩,rfl⟩;conv=>whnf
 refine hK _ _ ?_;clear hK hQ K;refine awp_seq2 fun K hK hQ=>?_
 conv=>whnf
 refine⟨_,_,hq _,?_⟩;conv=>whnf
 intro _;rw[l2];conv=>whnf
 refine a2.mono ?_;rintro o T ⟨⟨q,rfl⟩,rfl⟩;conv=>whnf
 refine hK _ _ ?_;clear hK hQ K;refine awp_seq2 fun K hK hQ=>?_
 conv=>whnf
 refine⟨_,_,hq _,?_⟩;conv=>whnf
 intro _;rw[l3];conv=>whnf
 refine a3.mono ?_;rintro o T ⟨⟨q,rfl⟩,rfl⟩;conv=>whnf
 refine hK _ _ ?_;clear hK hQ K;conv=>whnf
 refine⟨_,_,hq _,?_⟩;conv=>whnf
 refine a4.mono ?_;rintro o T ⟨rfl,z,hz',rfl⟩;rw[St.upd_upd];conv=>whnf
 exact⟨_,_,⟨rfl,_,hz',rfl⟩,hend _,AV.leS_refl _ _ _⟩
theorem Model_q{S:St}{b:Nat}{x:Int}(h:CntAt S b x)(hx:OkC x)(m:ModelV)(hz:SzC m)(hn:∀ v∈m.vars,v.1.size≤9223372036854775807):Triple P (C G) 24 [.ref b 0,.ag (rowM m)] S (CntQ S b):=by
 have lv:=rowsV_len m.vars
 have lc:=rowsC_len m.cons
 have lg:=rowsTm_len m.goal
 have z1:=hz.v
 have z2:=hz.c
 have z3:=hz.g
 refine triple_of_awp (hT G) hm Tryz.func24 rfl (by decide +kernel) rfl (by decide +kernel) (by show 2≤_;decide +kernel) rfl ?_
 refine awp_seq2 fun K hK hQ=>?_
 conv=>whnf
 intro b3 hb3;conv=>whnf
 refine hK _ _ ?_;clear hK hQ K;have hne:b≠b3:=St.ne_of hb3 h;change awp _ _ _ _ (S.upd b3 (.obj 26 (rowM m))) _;generalize hS1:S.upd b3 (.obj 26 (rowM m))=S1;have q3:S1 b3=some (.obj 26 (rowM m)):=by rw[← hS1];exact St.upd_same _ _ _
 have h1:CntAt S1 b x:=by rw[← hS1];exact St.up hb3 h
 have hend:∀ z:Int,St.le (S.upd b (.obj 101 [.int .i64 z])) (S1.upd b (.obj 101 [.int .i64 z])):=fun z=>by
  rw[← hS1];exact St.le_upd2 (St.le_upd' (St.le_refl _) hb3 _) _ _
 have hc:∀ z:Int,CntAt (S1.upd b (.obj 101 [.int .i64 z])) b z:=fun z=>St.upd_same _ _ _
 have hq:∀ z:Int,(S1.upd b (.obj 101 [.int .i64 z])) b3=some (.obj 26 (rowM m)):=fun z=>St.ov (Ne.symm hne) q3
 have hS1x:S1=S1.upd b (.obj 101 [.int .i64 x]):=(St.upd_self h1).symm
 have hvar:∀ v∈m.vars,∀ y,OkC y→Triple P (C G) 47 [.ref b 0,.str v.1] (S1.upd b (.obj 101 [.int .i64 y])) (CntQ (S1.upd b (.obj 101 [.int .i64 y])) b):=fun v hv y hy=>
  (Text_c (G:=G) (hc y) hy v.1 (hn v hv)).mono fun o S' ⟨h1,h2⟩=>⟨h1,_,cntT_ok hy v.1 (hn v hv),h2⟩
 have hcon:∀ c∈m.cons,∀ y,OkC y→Triple P (C G) 48 [.ref b 0,.ag (rowC c)] (S1.upd b (.obj 101 [.int .i64 y])) (CntQ (S1.upd b (.obj 101 [.int .i64 y])) b):=fun c hcc y hy=>Con_q (hc y) hy c (lenCon_of hz c hcc)
 have hy:=hx
 refine awp_seq2 fun K hK hQ=>?_
 conv=>whnf
 rw[hS1x];clear h1 hS1 hS1x h hx;generalize x=y at hy ⊢
 -- 4 loop's number tmp,m.vars list,lv its length's fact,rowV its row,the element's part,hvar contract,rowsV m.vars rows
 refine⟨⟨Nat×Int,fun z=>[(0,.ref b 0),(3,.ref b3 0),(4,.int .i64 (z.1:Int))],
  fun z S'=>S'=S1.upd b (.obj 101 [.int .i64 z.2])∧OkC z.2∧z.1≤m.vars.length,fun z=>m.vars.length-z.1⟩,
  ⟨(0,y),⟨rfl,rfl,rfl,trivial⟩,_,St.leW_refl _,rfl,hy,by omega⟩,?_⟩
 rintro⟨i,y⟩ S' ⟨rfl,hy,hi⟩;dsimp only at hy hi;have hok:=COk_ok (G:=G) (hc y);conv=>whnf
 refine⟨_,_,hq _,?_⟩;conv=>whnf
 intro _;rw[lv];conv=>whnf
 refine split_of (fun hlt=>?_) (fun hlt=>?_)
 ·have hlt:i<m.vars.length:=by have:=of_decide_eq_true hlt;omega
  have ga:(rowsV m.vars)[(i:Int).toNat]? = some (rowV m.vars[i]):=by simp[rowsV,hlt]
  have w1:IntKind.i64.wrap ((i:Int)+1)=((i+1:Nat):Int):=wrap_nat (by omega)
  have hca:=hvar m.vars[i] (List.getElem_mem hlt) y hy
  generalize m.vars[i]=e at *;conv=>whnf
  refine hok.mono ?_;rintro o T ⟨rfl,rfl⟩;conv=>whnf
  refine split_of (fun hp=>?_) (fun hp=>?_)
  ·skip
   conv=>whnf
   refine⟨_,_,hq _,?_⟩;conv=>whnf
   refine⟨_,⟨by omega,ga⟩,?_⟩
   conv=>whnf
   refine hca.mono ?_;rintro o T ⟨rfl,z,hz',rfl⟩;rw[St.upd_upd];conv=>whnf
   exact⟨(i+1,z),⟨rfl,rfl,congrArg _ w1,trivial⟩,⟨_,St.leW_refl _,rfl,hz',hlt⟩,by show m.vars.length-(i+1)<m.vars.length-i;omega⟩
  ·skip
   conv=>whnf
   refine hK _ _ ?_;clear hK hQ K;refine awp_seq2 fun K hK hQ=>?_
   conv=>whnf
   -- 5 loop's number tmp,m.cons list,lc its length's fact,rowC its row,the element's part,hcon contract,rowsC m.cons rows
   refine⟨⟨Nat×Int,fun z=>[(0,.ref b 0),(3,.ref b3 0),(5,.int .i64 (z.1:Int))],
    fun z S'=>S'=S1.upd b (.obj 101 [.int .i64 z.2])∧OkC z.2∧z.1≤m.cons.length,fun z=>m.cons.length-z.1⟩,
    ⟨(0,y),⟨rfl,rfl,rfl,trivial⟩,_,St.leW_refl _,rfl,hy,by omega⟩,?_⟩
   rintro⟨i,y⟩ S' ⟨rfl,hy,hi⟩;dsimp only at hy hi;have hok:=COk_ok (G:=G) (hc y);conv=>whnf
   refine⟨_,_,hq _,?_⟩;conv=>whnf
   intro _;rw[lc];conv=>whnf
   refine split_of (fun hlt=>?_) (fun hlt=>?_)
   ·have hlt:i<m.cons.length:=by have:=of_decide_eq_true hlt;omega
    have ga:(rowsC m.cons)[(i:Int).toNat]? = some (rowC m.cons[i]):=by simp[rowsC,hlt]
    have w1:IntKind.i64.wrap ((i:Int)+1)=((i+1:Nat):Int):=wrap_nat (by omega)
    have hca:=hcon m.cons[i] (List.getElem_mem hlt) y hy
    generalize m.cons[i]=e at *;conv=>whnf
    refine hok.mono ?_;rintro o T ⟨rfl,rfl⟩;conv=>whnf
    refine split_of (fun hp=>?_) (fun hp=>?_)
    ·skip
     conv=>whnf
     refine⟨_,_,hq _,?_⟩;conv=>whnf
     refine⟨_,⟨by omega,ga⟩,?_⟩
     conv=>whnf
     refine hca.mono ?_;rintro o T ⟨rfl,z,hz',rfl⟩;rw[St.upd_upd];conv=>whnf
     exact⟨(i+1,z),⟨rfl,rfl,congrArg _ w1,trivial⟩,⟨_,St.leW_refl _,rfl,hz',hlt⟩,by show m.cons.length-(i+1)<m.cons.length-i;omega⟩
    ·skip
     conv=>whnf
     refine hK _ _ ?_;clear hK hQ K;conv=>whnf
     refine⟨_,_,hq _,?_⟩;conv=>whnf
     intro _;rw[lg];conv=>whnf
     have a0:=CAdd_ok (G:=G) (hc _) hy (m.goal.length:Int) (by omega) (by omega)
     have o0:=cnt_ok hy (n:=(m.goal.length:Int)) (by omega) (by omega)
     rw[St.upd_upd] at a0;refine a0.mono ?_;rintro o T ⟨⟨q,rfl⟩,rfl⟩;conv=>whnf
     exact⟨_,_,⟨rfl,_,o0,rfl⟩,hend _,AV.leS_refl _ _ _⟩
   ·skip
    conv=>whnf
    refine hK _ _ ?_;clear hK hQ K;conv=>whnf
    refine⟨_,_,hq _,?_⟩;conv=>whnf
    intro _;rw[lg];conv=>whnf
    have a0:=CAdd_ok (G:=G) (hc _) hy (m.goal.length:Int) (by omega) (by omega)
    have o0:=cnt_ok hy (n:=(m.goal.length:Int)) (by omega) (by omega)
    rw[St.upd_upd] at a0;refine a0.mono ?_;rintro o T ⟨⟨q,rfl⟩,rfl⟩;conv=>whnf
    exact⟨_,_,⟨rfl,_,o0,rfl⟩,hend _,AV.leS_refl _ _ _⟩
 ·skip
  conv=>whnf
  refine hK _ _ ?_;clear hK hQ K;refine awp_seq2 fun K hK hQ=>?_
  conv=>whnf
  -- 5 loop's number tmp,m.cons list,lc its length's fact,rowC its row,the element's part,hcon contract,rowsC m.cons rows
  refine⟨⟨Nat×Int,fun z=>[(0,.ref b 0),(3,.ref b3 0),(5,.int .i64 (z.1:Int))],
   fun z S'=>S'=S1.upd b (.obj 101 [.int .i64 z.2])∧OkC z.2∧z.1≤m.cons.length,fun z=>m.cons.length-z.1⟩,
   ⟨(0,y),⟨rfl,rfl,rfl,trivial⟩,_,St.leW_refl _,rfl,hy,by omega⟩,?_⟩
  rintro⟨i,y⟩ S' ⟨rfl,hy,hi⟩;dsimp only at hy hi;have hok:=COk_ok (G:=G) (hc y);conv=>whnf
  refine⟨_,_,hq _,?_⟩;conv=>whnf
  intro _;rw[lc];conv=>whnf
  refine split_of (fun hlt=>?_) (fun hlt=>?_)
  ·have hlt:i<m.cons.length:=by have:=of_decide_eq_true hlt;omega
   have ga:(rowsC m.cons)[(i:Int).toNat]? = some (rowC m.cons[i]):=by simp[rowsC,hlt]
   have w1:IntKind.i64.wrap ((i:Int)+1)=((i+1:Nat):Int):=wrap_nat (by omega)
   have hca:=hcon m.cons[i] (List.getElem_mem hlt) y hy
   generalize m.cons[i]=e at *;conv=>whnf
   refine hok.mono ?_;rintro o T ⟨rfl,rfl⟩;conv=>whnf
   refine split_of (fun hp=>?_) (fun hp=>?_)
   ·skip
    conv=>whnf
    refine⟨_,_,hq _,?_⟩;conv=>whnf
    refine⟨_,⟨by omega,ga⟩,?_⟩
    conv=>whnf
    refine hca.mono ?_;rintro o T ⟨rfl,z,hz',rfl⟩;rw[St.upd_upd];conv=>whnf
    exact⟨(i+1,z),⟨rfl,rfl,congrArg _ w1,trivial⟩,⟨_,St.leW_refl _,rfl,hz',hlt⟩,by show m.cons.length-(i+1)<m.cons.length-i;omega⟩
   ·skip
    conv=>whnf
    refine hK _ _ ?_;clear hK hQ K;conv=>whnf
    refine⟨_,_,hq _,?_⟩;conv=>whnf
    intro _;rw[lg];conv=>whnf
    have a0:=CAdd_ok (G:=G) (hc _) hy (m.goal.length:Int) (by omega) (by omega)
    have o0:=cnt_ok hy (n:=(m.goal.length:Int)) (by omega) (by omega)
    rw[St.upd_upd] at a0;refine a0.mono ?_;rintro o T ⟨⟨q,rfl⟩,rfl⟩;conv=>whnf
    exact⟨_,_,⟨rfl,_,o0,rfl⟩,hend _,AV.leS_refl _ _ _⟩
  ·skip
   conv=>whnf
   refine hK _ _ ?_;clear hK hQ K;conv=>whnf
   refine⟨_,_,hq _,?_⟩;conv=>whnf
   intro _;rw[lg];conv=>whnf
   have a0:=CAdd_ok (G:=G) (hc _) hy (m.goal.length:Int) (by omega) (by omega)
   have o0:=cnt_ok hy (n:=(m.goal.length:Int)) (by omega) (by omega)
   rw[St.upd_upd] at a0;refine a0.mono ?_;rintro o T ⟨⟨q,rfl⟩,rfl⟩;conv=>whnf
   exact⟨_,_,⟨rfl,_,o0,rfl⟩,hend _,AV.leS_refl _ _ _⟩
theorem r4Name_t(s:ByteArray)(hs:s.size≤9223372036854775806)(S:St):Triple P (C G) 133 [.str s] S (YesNo S):=by
 have hle:=fun n S=>r4letter_t (G:=G) n S
 refine triple_of_awp (hT G) hm Tryz.func133 rfl (by decide +kernel) rfl (by decide +kernel) (by show 1≤_;decide +kernel) rfl ?_
 refine awp_seq2 fun K hK hQ=>?_
 conv=>whnf
 refine hK _ _ ?_;clear hK hQ K;refine awp_seq2 fun K hK hQ=>?_
 conv=>whnf
 refine split_of (fun h=>?_) (fun h=>?_)
 ·skip
  conv=>whnf
  refine hQ _ _ _ (by simp) ?_
  conv=>whnf
  exact⟨_,_,⟨⟨_,rfl⟩,rfl⟩,St.le_refl _,AV.leS_refl _ _ _⟩
 have h1:1≤s.size:=by have:=of_decide_eq_false h;omega
 conv=>whnf
 refine split_of (fun h=>?_) (fun h=>?_)
 ·skip
  conv=>whnf
  refine hQ _ _ _ (by simp) ?_
  conv=>whnf
  exact⟨_,_,⟨⟨_,rfl⟩,rfl⟩,St.le_refl _,AV.leS_refl _ _ _⟩
 conv=>whnf
 refine⟨by omega,?_⟩
 conv=>whnf
 refine(hle _ _).mono ?_;rintro o T ⟨⟨b,rfl⟩,rfl⟩
 cases b with
 | false=>
   conv=>whnf
   refine hQ _ _ _ (by simp) ?_
   conv=>whnf
   exact⟨_,_,⟨⟨_,rfl⟩,rfl⟩,St.le_refl _,AV.leS_refl _ _ _⟩
 | true=>
   conv=>whnf
   refine hK _ _ ?_;clear hK hQ K;refine awp_seq2 fun K hK hQ=>?_
   conv=>whnf
   refine⟨⟨Nat,fun i=>[(0,.str s),(3,.int .i64 ((i+1:Nat):Int))],fun i S1=>S1=T∧i≤s.size,fun i=>s.size-i⟩,
    ⟨0,⟨rfl,rfl,trivial⟩,_,St.leW_refl _,rfl,Nat.zero_le _⟩,?_⟩
   rintro(i:Nat) S1 ⟨rfl,hi⟩;conv=>whnf
   refine split_of (fun hlt=>?_) (fun hlt=>?_)
   ·have hlt:i+1<s.size:=by have:=of_decide_eq_true hlt;omega
    have w1:IntKind.i64.wrap (((i+1:Nat):Int)+1)=((i+1+1:Nat):Int):=wrap_nat (by omega)
    have hnx:∀ env:Env,Env.le env [(0,.str s),(3,.int .i64 ((i+1+1:Nat):Int))]→(∃ j:Nat,Env.le env [(0,.str s),(3,.int .i64 ((j+1:Nat):Int))]∧(∃ S₀,St.leW S₀ S1∧S₀=S1∧j≤s.size)∧s.size-j<s.size-i):=fun env he=>⟨i+1,he,⟨_,St.leW_refl _,rfl,by omega⟩,by omega⟩
    conv=>whnf
    refine⟨by omega,?_⟩
    conv=>whnf
    refine(hle _ _).mono ?_;rintro o T ⟨⟨b,rfl⟩,rfl⟩
    cases b with
    | true=>
      conv=>whnf
      exact hnx _ ⟨rfl,congrArg _ w1,trivial⟩
    | false=>
      conv=>whnf
      refine⟨by omega,?_⟩
      conv=>whnf
      refine split_of (fun h=>?_) (fun h=>?_)
      ·skip
       conv=>whnf
       refine hQ _ _ _ (by simp) ?_
       conv=>whnf
       exact⟨_,_,⟨⟨_,rfl⟩,rfl⟩,St.le_refl _,AV.leS_refl _ _ _⟩
      conv=>whnf
      refine⟨by omega,?_⟩
      conv=>whnf
      refine split_of (fun h=>?_) (fun h=>?_)
      ·skip
       conv=>whnf
       refine hQ _ _ _ (by simp) ?_
       conv=>whnf
       exact⟨_,_,⟨⟨_,rfl⟩,rfl⟩,St.le_refl _,AV.leS_refl _ _ _⟩
      conv=>whnf
      exact hnx _ ⟨rfl,congrArg _ w1,trivial⟩
   ·refine hK _ _ ?_;clear hK hQ K;conv=>whnf
    exact⟨_,_,⟨⟨_,rfl⟩,rfl⟩,St.le_refl _,AV.leS_refl _ _ _⟩
def boundsV(lo hi:Int):Bool:=withinV lo 1000000000 && (withinV hi 1000000000 && (decide (lo≤hi) && decide (IntKind.i64.wrap (hi-lo)<64)))
theorem boundsV_ok{v:VarV}(h:boundsV v.2.1 v.2.2=true):VarOk v:=by
 unfold boundsV withinV at h;simp only[Bool.and_eq_true,decide_eq_true_eq] at h;obtain⟨⟨a1,a2⟩,⟨b1,b2⟩,c,d⟩:=h;rw[wrap_i64 (by omega) (by omega)] at d
 exact⟨a1,b2,c,d⟩
theorem r4Bounds_ok(lo hi:Int)(S:St):Triple P (C G) 134 [.int .i64 lo,.int .i64 hi] S fun o S'=>o=.ret (.bool (boundsV lo hi))∧S'=S:=by
 have hsz:=fun n S=>r4size_ok (G:=G) n 1000000000 (by decide) (by decide) S
 have hsp:boundsV lo hi=(withinV lo 1000000000 && (withinV hi 1000000000 && (decide (lo≤hi) && decide (IntKind.i64.wrap (hi-lo)<64)))):=rfl
 generalize boundsV lo hi=res at *;refine triple_of_awp (hT G) hm Tryz.func134 rfl (by decide +kernel) rfl (by decide +kernel) (by show 2≤_;decide +kernel) rfl ?_
 conv=>whnf
 refine(hsz _ _).mono ?_;rintro o T ⟨rfl,rfl⟩
 cases h1:withinV lo 1000000000 with
 | false=>
   rw[h1] at hsp;conv=>whnf
   exact⟨_,_,⟨by rw[hsp];rfl,rfl⟩,St.le_refl _,AV.leS_refl _ _ _⟩
 | true=>
   rw[h1] at hsp;conv=>whnf
   refine(hsz _ _).mono ?_;rintro o T' ⟨rfl,rfl⟩
   cases h2:withinV hi 1000000000 with
   | false=>
     rw[h2] at hsp;conv=>whnf
     exact⟨_,_,⟨by rw[hsp];rfl,rfl⟩,St.le_refl _,AV.leS_refl _ _ _⟩
   | true=>
     rw[h2] at hsp;conv=>whnf
     refine split_of (fun h=>?_) (fun h=>?_)
     rotate_left
     ·rw[h] at hsp;conv=>whnf
      exact⟨_,_,⟨by rw[hsp];rfl,rfl⟩,St.le_refl _,AV.leS_refl _ _ _⟩
     rw[h] at hsp;conv=>whnf
     exact⟨_,_,⟨by rw[hsp];rfl,rfl⟩,St.le_refl _,AV.leS_refl _ _ _⟩
def VarsQ(l:List VarV)(S:St)(o:Out)(S':St):Prop:=(∃ a e:Int,o=.ret (.tu [.int .i64 a,.int .i64 e])∧(e=0→∀ v∈l,VarOk v))∧S'=S
theorem r4vars_t(l:List VarV)(hl:l.length+1≤9223372036854775807)(hn:∀ v∈l,v.1.size≤9223372036854775806)(S:St):Triple P (C G) 97 [.sl .any 3 (rowsV l)] S (VarsQ l S):=by
 have ll:=rowsV_len l
 refine triple_of_awp (hT G) hm Tryz.func97 rfl (by decide +kernel) rfl (by decide +kernel) (by show 1≤_;decide +kernel) rfl ?_
 refine awp_seq2 fun K hK hQ=>?_
 conv=>whnf
 refine hK _ _ ?_;clear hK hQ K;refine awp_seq2 fun K hK hQ=>?_
 conv=>whnf
 intro _;rw[ll];conv=>whnf
 refine split_of (fun h=>?_) (fun h=>?_)
 ·skip
  conv=>whnf
  refine hQ _ _ _ (by simp) ?_
  conv=>whnf
  exact⟨_,_,⟨⟨_,_,rfl,fun h=>absurd h (by decide)⟩,rfl⟩,St.le_refl _,AV.leS_refl _ _ _⟩
 conv=>whnf
 intro _;rw[ll];conv=>whnf
 refine split_of (fun h=>?_) (fun h=>?_)
 ·skip
  conv=>whnf
  refine hQ _ _ _ (by simp) ?_
  conv=>whnf
  exact⟨_,_,⟨⟨_,_,rfl,fun h=>absurd h (by decide)⟩,rfl⟩,St.le_refl _,AV.leS_refl _ _ _⟩
 conv=>whnf
 refine hK _ _ ?_;clear hK hQ K;refine awp_seq2 fun K hK hQ=>?_
 conv=>whnf
 refine⟨⟨Nat,fun i=>[(0,.sl .any 3 (rowsV l)),(4,.int .i64 (i:Int))],fun i S1=>S1=S∧i≤l.length∧∀ v∈l.take i,VarOk v,fun i=>l.length-i⟩,
  ⟨0,⟨⟨rfl,rfl⟩,rfl,trivial⟩,_,St.leW_refl _,rfl,Nat.zero_le _,by simp⟩,?_⟩
 rintro(i:Nat) S1 ⟨rfl,hi,hok⟩;conv=>whnf
 intro _;rw[ll];conv=>whnf
 refine split_of (fun hlt=>?_) (fun hlt=>?_)
 ·have hlt:i<l.length:=by have:=of_decide_eq_true hlt;omega
  have ga:(rowsV l)[(i:Int).toNat]? = some (rowV l[i]):=by simp[rowsV,hlt]
  have w1:IntKind.i64.wrap ((i:Int)+1)=((i+1:Nat):Int):=wrap_nat (by omega)
  have hnm:=fun S=>r4Name_t (G:=G) (l[i]).1 (hn _ (List.getElem_mem hlt)) S
  have hbo:=fun S=>r4Bounds_ok (G:=G) (l[i]).2.1 (l[i]).2.2 S
  have hok':boundsV (l[i]).2.1 (l[i]).2.2=true→∀ v∈l.take (i+1),VarOk v:=fun hb v hv=>by
   rw[List.take_add_one,List.getElem?_eq_getElem hlt] at hv
   rcases List.mem_append.1 hv with hv | hv
   ·exact hok v hv
   ·obtain rfl:v=l[i]:=by simpa using hv
    exact boundsV_ok hb
  generalize l[i]=vi at *;conv=>whnf
  refine⟨_,⟨by omega,ga⟩,?_⟩
  conv=>whnf
  refine(hnm _).mono ?_;rintro o T ⟨⟨b,rfl⟩,rfl⟩
  cases b with
  | false=>
    conv=>whnf
    refine hQ _ _ _ (by simp) ?_
    conv=>whnf
    exact⟨_,_,⟨⟨_,_,rfl,fun h=>absurd h (by decide)⟩,rfl⟩,St.le_refl _,AV.leS_refl _ _ _⟩
  | true=>
    conv=>whnf
    refine⟨⟨Nat,fun k=>[(0,.sl .any 3 (rowsV l)),(4,.int .i64 (i:Int)),(5,.int .i64 (k:Int))],fun k S2=>S2=T∧k≤i,fun k=>i-k⟩,
     ⟨0,⟨⟨rfl,rfl⟩,rfl,rfl,trivial⟩,_,St.leW_refl _,rfl,Nat.zero_le _⟩,?_⟩
    rintro(k:Nat) S2 ⟨rfl,hk⟩;conv=>whnf
    refine split_of (fun hlt2=>?_) (fun hlt2=>?_)
    ·have hlt2:k<i:=by have:=of_decide_eq_true hlt2;omega
     have hlk:k<l.length:=by omega
     have gb:(rowsV l)[(k:Int).toNat]? = some (rowV l[k]):=by simp[rowsV,hlk]
     have w2:IntKind.i64.wrap ((k:Int)+1)=((k+1:Nat):Int):=wrap_nat (by omega)
     generalize l[k]=vk at *;refine⟨[],(.free 0 (.free 1 (.free 2 (.free 3 (.free 4 (.free 5 (.free 6 (.free 7 (.free 8 (.free 9 (.free 10 .done))))))))))),_,by decide +kernel,?_,fun _ _ h=>⟨_,.inl rfl,h⟩⟩
     conv=>whnf
     refine⟨_,⟨by omega,gb⟩,?_⟩
     conv=>whnf
     refine⟨_,⟨by omega,ga⟩,?_⟩
     conv=>whnf
     refine split_of (fun h=>?_) (fun h=>?_)
     ·skip
      conv=>whnf
      refine hQ _ _ _ (by simp) ?_
      conv=>whnf
      exact⟨_,_,⟨⟨_,_,rfl,fun h=>absurd h (by decide)⟩,rfl⟩,St.le_refl _,AV.leS_refl _ _ _⟩
     conv=>whnf
     exact⟨k+1,⟨⟨rfl,rfl⟩,rfl,congrArg _ w2,trivial⟩,⟨_,St.leW_refl _,rfl,hlt2⟩,by show i-(k+1)<i-k;omega⟩
    ·skip
     conv=>whnf
     refine⟨[],(.free 0 (.free 1 (.free 2 (.free 3 (.free 4 (.free 5 (.free 6 (.free 7 (.free 8 (.free 9 (.one 10 (.free 11 .done) .none))))))))))),_,by decide +kernel,?_,fun _ _ h=>⟨_,.inl rfl,h⟩⟩
     conv=>whnf
     refine⟨_,⟨by omega,ga⟩,?_⟩
     conv=>whnf
     refine⟨_,⟨by omega,ga⟩,?_⟩
     conv=>whnf
     refine(hbo _).mono ?_;rintro o T' ⟨rfl,rfl⟩
     cases hb:boundsV vi.2.1 vi.2.2 with
     | false=>
       conv=>whnf
       refine hQ _ _ _ (by simp) ?_
       conv=>whnf
       exact⟨_,_,⟨⟨_,_,rfl,fun h=>absurd h (by decide)⟩,rfl⟩,St.le_refl _,AV.leS_refl _ _ _⟩
     | true=>
       conv=>whnf
       exact⟨i+1,⟨⟨rfl,rfl⟩,congrArg _ w1,trivial⟩,⟨_,St.leW_refl _,rfl,hlt,hok' hb⟩,by show l.length-(i+1)<l.length-i;omega⟩
 ·have hlt:i=l.length:=by have:=of_decide_eq_false hlt;omega
  subst hlt;rw[List.take_length] at hok;refine hK _ _ ?_;clear hK hQ K;conv=>whnf
  exact⟨_,_,⟨⟨_,_,rfl,fun _=>hok⟩,rfl⟩,St.le_refl _,AV.leS_refl _ _ _⟩
theorem lenC_of{m:ModelV}(hz:SzC m)(c:ConV)(hc:c∈m.cons):LenC c:=by
 obtain⟨h1,h2,h3,h4,h5⟩:=hz.l c hc;exact⟨by omega,by omega,by omega,by omega,fun r hr=>by have:=h5 r hr;omega⟩
def ChkQ(m:ModelV)(S:St)(o:Out)(S':St):Prop:=(∃ a e:Int,o=.ret (.tu [.int .i64 a,.int .i64 e])∧(e=0→∀ v∈m.vars,VarOk v))∧S'=S
theorem r4Check_t(m:ModelV)(hz:SzC m)(hn:∀ v∈m.vars,v.1.size≤9223372036854775806)(S:St):Triple P (C G) 61 [.ag (rowM m)] S (ChkQ m S):=by
 have lv:=rowsV_len m.vars
 have lc:=rowsC_len m.cons
 have lg:=rowsTm_len m.goal
 have z1:=hz.v
 have z2:=hz.c
 have z3:=hz.g
 have hva:=fun S=>r4vars_t (G:=G) m.vars (by omega) hn S
 have hte:=fun n S=>r4terms_t (G:=G) m.goal (by omega) n S
 have hma:=fun n S=>r4many_t (G:=G) n S
 refine triple_of_awp (hT G) hm Tryz.func61 rfl (by decide +kernel) rfl (by decide +kernel) (by show 1≤_;decide +kernel) rfl ?_
 refine awp_seq2 fun K hK hQ=>?_
 conv=>whnf
 intro b1 hb1;conv=>whnf
 have q1:=St.upd_same S b1 (.obj 26 (rowM m))
 have hle:=St.le_upd' (St.le_refl S) hb1 (.obj 26 (rowM m))
 refine hK _ _ ?_;clear hK hQ K;change awp _ _ _ _ (S.upd b1 (.obj 26 (rowM m))) _;generalize S.upd b1 (.obj 26 (rowM m))=T at *;refine awp_seq2 fun K hK hQ=>?_
 conv=>whnf
 refine⟨_,_,q1,?_⟩;conv=>whnf
 refine(hva _).mono ?_;rintro o T1 ⟨⟨a,e,rfl,hok⟩,rfl⟩;conv=>whnf
 refine hK _ _ ?_;clear hK hQ K;refine awp_seq2 fun K hK hQ=>?_
 conv=>whnf
 refine split_of (fun h=>?_) (fun h=>?_)
 ·have h:e≠0:=by simpa using h
  -- fun hh=>absurd hh h why
  conv=>whnf
  refine hQ _ _ _ (by simp) ?_
  conv=>whnf
  exact⟨_,_,⟨⟨_,_,rfl,fun hh=>absurd hh h⟩,rfl⟩,hle,AV.leS_refl _ _ _⟩
 have h:e=0:=by simpa using h
 replace hok:=hok h
 subst h;conv=>whnf
 refine hK _ _ ?_;clear hK hQ K;refine awp_seq2 fun K hK hQ=>?_
 conv=>whnf
 refine⟨_,_,q1,?_⟩;conv=>whnf
 intro _;rw[lv];conv=>whnf
 refine hK _ _ ?_;clear hK hQ K;refine awp_seq2 fun K hK hQ=>?_
 conv=>whnf
 refine⟨_,_,q1,?_⟩;conv=>whnf
 intro _;rw[lc];conv=>whnf
 refine split_of (fun h=>?_) (fun h=>?_)
 ·skip
  -- fun hh=>absurd hh (by decide) why
  conv=>whnf
  refine hQ _ _ _ (by simp) ?_
  conv=>whnf
  exact⟨_,_,⟨⟨_,_,rfl,fun hh=>absurd hh (by decide)⟩,rfl⟩,hle,AV.leS_refl _ _ _⟩
 conv=>whnf
 refine hK _ _ ?_;clear hK hQ K;refine awp_seq2 fun K hK hQ=>?_
 conv=>whnf
 refine⟨⟨Nat,fun i=>[(1,.ref b1 0),(6,.int .i64 (m.vars.length:Int)),(7,.int .i64 (i:Int))],fun i S1=>S1=T1∧i≤m.cons.length,fun i=>m.cons.length-i⟩,
  ⟨0,⟨rfl,rfl,rfl,trivial⟩,_,St.leW_refl _,rfl,Nat.zero_le _⟩,?_⟩
 rintro(i:Nat) S1 ⟨rfl,hi⟩;conv=>whnf
 refine⟨_,_,q1,?_⟩;conv=>whnf
 intro _;rw[lc];conv=>whnf
 refine split_of (fun hlt=>?_) (fun hlt=>?_)
 ·have hlt:i<m.cons.length:=by have:=of_decide_eq_true hlt;omega
  have ga:(rowsC m.cons)[(i:Int).toNat]? = some (rowC m.cons[i]):=by simp[rowsC,hlt]
  have hcn:=fun n S=>r4Con_t (G:=G) m.cons[i] (lenC_of hz _ (List.getElem_mem hlt)) n S
  have w1:IntKind.i64.wrap ((i:Int)+1)=((i+1:Nat):Int):=wrap_nat (by omega)
  generalize m.cons[i]=ci at *;conv=>whnf
  refine⟨_,_,q1,?_⟩;conv=>whnf
  refine⟨_,⟨by omega,ga⟩,?_⟩
  conv=>whnf
  refine(hcn _ _).mono ?_;rintro o T ⟨⟨e,rfl⟩,rfl⟩;conv=>whnf
  refine split_of (fun h=>?_) (fun h=>?_)
  ·have h:e≠0:=by simpa using h
   -- fun hh=>absurd hh h why
   conv=>whnf
   refine hQ _ _ _ (by simp) ?_
   conv=>whnf
   exact⟨_,_,⟨⟨_,_,rfl,fun hh=>absurd hh h⟩,rfl⟩,hle,AV.leS_refl _ _ _⟩
  conv=>whnf
  exact⟨i+1,⟨rfl,rfl,congrArg _ w1,trivial⟩,⟨_,St.leW_refl _,rfl,hlt⟩,by show m.cons.length-(i+1)<m.cons.length-i;omega⟩
 ·skip
  refine hK _ _ ?_;clear hK hQ K;refine awp_seq2 fun K hK hQ=>?_
  conv=>whnf
  refine⟨_,_,q1,?_⟩;conv=>whnf
  intro _;rw[lc];conv=>whnf
  refine hK _ _ ?_;clear hK hQ K;refine awp_seq2 fun K hK hQ=>?_
  conv=>whnf
  refine⟨_,_,q1,?_⟩;conv=>whnf
  cases hg:m.hasGoal with
  | false=>
    conv=>whnf
    refine⟨_,_,q1,?_⟩;conv=>whnf
    intro _;rw[lg];conv=>whnf
    refine split_of (fun h=>?_) (fun h=>?_)
    ·skip
     -- fun hh=>absurd hh (by decide) why
     conv=>whnf
     refine hQ _ _ _ (by simp) ?_
     conv=>whnf
     exact⟨_,_,⟨⟨_,_,rfl,fun hh=>absurd hh (by decide)⟩,rfl⟩,hle,AV.leS_refl _ _ _⟩
    ·skip
     -- fun _=>hok why
     conv=>whnf
     refine hQ _ _ _ (by simp) ?_
     conv=>whnf
     exact⟨_,_,⟨⟨_,_,rfl,fun _=>hok⟩,rfl⟩,hle,AV.leS_refl _ _ _⟩
  | true=>
    conv=>whnf
    refine hK _ _ ?_;clear hK hQ K;refine awp_seq2 fun K hK hQ=>?_
    conv=>whnf
    refine⟨_,_,q1,?_⟩;conv=>whnf
    intro _;rw[lg];conv=>whnf
    refine(hma _ _).mono ?_;rintro o T ⟨⟨b,rfl⟩,rfl⟩
    cases b with
    | true=>
      -- fun hh=>absurd hh (by decide) why
      conv=>whnf
      refine hQ _ _ _ (by simp) ?_
      conv=>whnf
      exact⟨_,_,⟨⟨_,_,rfl,fun hh=>absurd hh (by decide)⟩,rfl⟩,hle,AV.leS_refl _ _ _⟩
    | false=>
      conv=>whnf
      refine hK _ _ ?_;clear hK hQ K;refine awp_seq2 fun K hK hQ=>?_
      conv=>whnf
      refine⟨_,_,q1,?_⟩;conv=>whnf
      refine(hte _ _).mono ?_;rintro o T' ⟨⟨e,rfl⟩,rfl⟩;conv=>whnf
      refine hK _ _ ?_;clear hK hQ K;refine awp_seq2 fun K hK hQ=>?_
      conv=>whnf
      refine split_of (fun h=>?_) (fun h=>?_)
      ·have h:e≠0:=by simpa using h
       -- fun hh=>absurd hh h why
       conv=>whnf
       refine hQ _ _ _ (by simp) ?_
       conv=>whnf
       exact⟨_,_,⟨⟨_,_,rfl,fun hh=>absurd hh h⟩,rfl⟩,hle,AV.leS_refl _ _ _⟩
      conv=>whnf
      refine hK _ _ ?_;clear hK hQ K;conv=>whnf
      exact⟨_,_,⟨⟨_,_,rfl,fun _=>hok⟩,rfl⟩,hle,AV.leS_refl _ _ _⟩
theorem r4Right_t(m:ModelV)(hz:SzC m)(hn:∀ v∈m.vars,v.1.size≤9223372036854775806)(S:St):Triple P (C G) 50 [.ag (rowM m)] S fun o S'=>(∃ b,o=.ret (.bool b)∧(b=true→∀ v∈m.vars,VarOk v))∧S'=S:=by
 have hch:=fun S=>r4Check_t (G:=G) m hz hn S
 refine triple_of_awp (hT G) hm Tryz.func50 rfl (by decide +kernel) rfl (by decide +kernel) (by show 1≤_;decide +kernel) rfl ?_
 refine awp_seq2 fun K hK hQ=>?_
 conv=>whnf
 intro b1 hb1;conv=>whnf
 have q1:=St.upd_same S b1 (.obj 26 (rowM m))
 have hle:=St.le_upd' (St.le_refl S) hb1 (.obj 26 (rowM m))
 refine hK _ _ ?_;clear hK hQ K;change awp _ _ _ _ (S.upd b1 (.obj 26 (rowM m))) _;generalize S.upd b1 (.obj 26 (rowM m))=T at *;refine awp_seq2 fun K hK hQ=>?_
 conv=>whnf
 refine⟨_,_,q1,?_⟩;conv=>whnf
 refine(hch _).mono ?_;rintro o T1 ⟨⟨a,e,rfl,hok⟩,rfl⟩;conv=>whnf
 refine hK _ _ ?_;clear hK hQ K;conv=>whnf
 exact⟨_,_,⟨⟨_,rfl,fun h=>hok (by simpa using h)⟩,rfl⟩,hle,AV.leS_refl _ _ _⟩
def PrdQ(S:St)(o:Out)(S':St):Prop:=(∃ (n:Int) (b:Bool),o=.ret (.tu [.int .i64 n,.bool b]))∧S'=S
theorem r4Product_t(m:ModelV)(hz:SzC m)(hn:∀ v∈m.vars,v.1.size≤9223372036854775806)(most:Int)(hmo:1≤most)(S:St):Triple P (C G) 26 [.ag (rowM m),.int .i64 most] S (PrdQ S):=by
 have lv:=rowsV_len m.vars
 have z1:=hz.v
 have hri:=fun S=>r4Right_t (G:=G) m hz hn S
 refine triple_of_awp (hT G) hm Tryz.func26 rfl (by decide +kernel) rfl (by decide +kernel) (by show 2≤_;decide +kernel) rfl ?_
 refine awp_seq2 fun K hK hQ=>?_
 conv=>whnf
 intro b1 hb1;conv=>whnf
 have q1:=St.upd_same S b1 (.obj 26 (rowM m))
 have hle:=St.le_upd' (St.le_refl S) hb1 (.obj 26 (rowM m))
 refine hK _ _ ?_;clear hK hQ K;change awp _ _ _ _ (S.upd b1 (.obj 26 (rowM m))) _;generalize S.upd b1 (.obj 26 (rowM m))=T at *;refine awp_seq2 fun K hK hQ=>?_
 conv=>whnf
 refine⟨_,_,q1,?_⟩;conv=>whnf
 refine(hri _).mono ?_;rintro o T1 ⟨⟨b,rfl,hok⟩,rfl⟩
 cases b with
 | false=>
   conv=>whnf
   refine hQ _ _ _ (by simp) ?_
   conv=>whnf
   exact⟨_,_,⟨⟨_,_,rfl⟩,rfl⟩,hle,AV.leS_refl _ _ _⟩
 | true=>
   have hok:=hok rfl
   conv=>whnf
   refine split_of (fun h=>absurd (of_decide_eq_true h) (by omega)) (fun _=>?_)
   conv=>whnf
   refine hK _ _ ?_;clear hK hQ K;refine awp_seq2 fun K hK hQ=>?_
   conv=>whnf
   refine hK _ _ ?_;clear hK hQ K;refine awp_seq2 fun K hK hQ=>?_
   conv=>whnf
   refine⟨⟨Nat×Int,fun z=>[(1,.int .i64 most),(2,.ref b1 0),(6,.int .i64 z.2),(7,.int .i64 (z.1:Int))],fun z S1=>S1=T1∧z.1≤m.vars.length,fun z=>m.vars.length-z.1⟩,
    ⟨(0,1),⟨rfl,rfl,rfl,rfl,trivial⟩,_,St.leW_refl _,rfl,Nat.zero_le _⟩,?_⟩
   rintro⟨i,p⟩ S1 ⟨rfl,hi⟩;dsimp only at hi;conv=>whnf
   refine⟨_,_,q1,?_⟩;conv=>whnf
   intro _;rw[lv];conv=>whnf
   refine split_of (fun hlt0=>?_) (fun hlt0=>?_)
   ·have hlt:i<m.vars.length:=by have:=of_decide_eq_true hlt0;dsimp only at this;omega
    clear hlt0;have ga:(rowsV m.vars)[(i:Int).toNat]? = some (rowV m.vars[i]):=by simp[rowsV,hlt]
    have hvo:=hok _ (List.getElem_mem hlt)
    have w1:IntKind.i64.wrap ((i:Int)+1)=((i+1:Nat):Int):=wrap_nat (by omega)
    generalize m.vars[i]=vi at *;obtain⟨o1,o2,o3,o4⟩:=hvo;have hk:IntKind.i64.wrap (IntKind.i64.wrap (vi.2.2-vi.2.1)+1)=vi.2.2-vi.2.1+1:=by rw[wrap_i64 (n:=vi.2.2-vi.2.1) (by omega) (by omega),wrap_i64 (by omega) (by omega)]
    refine⟨[],(.free 0 (.free 1 (.free 2 (.free 3 (.free 4 (.free 5 (.free 6 (.free 7 (.free 8 (.free 9 (.free 10 (.free 11 (.free 12 (.free 13 (.free 14 .done))))))))))))))),_,by decide +kernel,?_,fun _ _ h=>⟨_,.inl rfl,h⟩⟩
    conv=>whnf
    refine⟨_,_,q1,?_⟩;conv=>whnf
    refine⟨_,⟨by omega,ga⟩,?_⟩
    conv=>whnf
    refine⟨_,_,q1,?_⟩;conv=>whnf
    refine⟨_,⟨by omega,ga⟩,?_⟩
    conv=>whnf
    rw[hk];refine⟨by omega,?_⟩
    conv=>whnf
    refine split_of (fun _=>?_) (fun _=>?_)
    ·skip
     conv=>whnf
     refine hQ _ _ _ (by simp) ?_
     conv=>whnf
     exact⟨_,_,⟨⟨_,_,rfl⟩,rfl⟩,hle,AV.leS_refl _ _ _⟩
    conv=>whnf
    exact⟨(i+1,_),⟨rfl,rfl,rfl,congrArg _ w1,trivial⟩,⟨_,St.leW_refl _,rfl,hlt⟩,by show m.vars.length-(i+1)<m.vars.length-i;omega⟩
   ·refine hK _ _ ?_;clear hK hQ K;conv=>whnf
    exact⟨_,_,⟨⟨_,_,rfl⟩,rfl⟩,hle,AV.leS_refl _ _ _⟩
theorem few_t(m:ModelV)(hz:SzC m)(hn:∀ v∈m.vars,v.1.size≤9223372036854775806)(S:St):Triple P (C G) 7 [.ag (rowM m)] S (YesNo S):=by
 have hp:=fun k h S=>r4Product_t (G:=G) m hz hn k h S
 refine triple_of_awp (hT G) hm Tryz.func7 rfl (by decide +kernel) rfl (by decide +kernel) (by show 1≤_;decide +kernel) rfl ?_
 refine awp_seq2 fun K hK hQ=>?_
 conv=>whnf
 intro b1 hb1;conv=>whnf
 have q1:=St.upd_same S b1 (.obj 26 (rowM m))
 have hle:=St.le_upd' (St.le_refl S) hb1 (.obj 26 (rowM m))
 refine hK _ _ ?_;clear hK hQ K;change awp _ _ _ _ (S.upd b1 (.obj 26 (rowM m))) _;generalize S.upd b1 (.obj 26 (rowM m))=T at *;refine awp_seq2 fun K hK hQ=>?_
 conv=>whnf
 refine(CMany_ok _ _).mono ?_;rintro o T1 ⟨b3,hb3,rfl,rfl⟩;conv=>whnf
 refine hK _ _ ?_;clear hK hQ K;refine awp_seq2 fun K hK hQ=>?_
 conv=>whnf
 refine⟨_,_,St.up hb3 q1,?_⟩;conv=>whnf
 refine(Model_q (G:=G) (x:=20000) (St.upd_same _ _ _) ⟨by decide,by decide⟩ m hz (fun v hv=>by have:=hn v hv;omega)).mono ?_
 rintro o T2 ⟨rfl,z,hz2,rfl⟩;rw[St.upd_upd];conv=>whnf
 refine hK _ _ ?_;clear hK hQ K;refine awp_seq2 fun K hK hQ=>?_
 conv=>whnf
 have c3:CntAt (T.upd b3 (.obj 101 [.int .i64 z])) b3 z:=St.upd_same _ _ _
 have p1:=St.up (p:=.obj 101 [.int .i64 z]) hb3 q1
 have hle3:=St.le_upd' hle hb3 (.obj 101 [.int .i64 z])
 generalize T.upd b3 (.obj 101 [.int .i64 z])=U at *;refine(COk_ok c3).mono ?_;rintro o T3 ⟨rfl,rfl⟩
 cases hd:decide (0≤z) with
 | false=>
   conv=>whnf
   refine hQ _ _ _ (by simp) ?_
   conv=>whnf
   exact⟨_,_,⟨⟨_,rfl⟩,rfl⟩,hle3,AV.leS_refl _ _ _⟩
 | true=>
   conv=>whnf
   refine hK _ _ ?_;clear hK hQ K;refine awp_seq2 fun K hK hQ=>?_
   conv=>whnf
   refine⟨_,_,p1,?_⟩;conv=>whnf
   refine(hp 100000 (by decide) _).mono ?_
   rintro o T4 ⟨⟨n1,c1,rfl⟩,rfl⟩;conv=>whnf
   refine hK _ _ ?_;clear hK hQ K;refine awp_seq2 fun K hK hQ=>?_
   conv=>whnf
   refine⟨_,_,p1,?_⟩;conv=>whnf
   refine(hp 700 (by decide) _).mono ?_
   rintro o T5 ⟨⟨n2,c2,rfl⟩,rfl⟩;conv=>whnf
   refine hK _ _ ?_;clear hK hQ K
   cases c2 with
   | true=>
     conv=>whnf
     exact⟨_,_,⟨⟨_,rfl⟩,rfl⟩,hle3,AV.leS_refl _ _ _⟩
   | false=>
     conv=>whnf
     exact⟨_,_,⟨⟨_,rfl⟩,rfl⟩,hle3,AV.leS_refl _ _ _⟩
end Go.Proofs.YtjpboanohpaibaaGreatDoor.Aw

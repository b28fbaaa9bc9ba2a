/- The reference's comparisons, at any two values, walked. The reference's comparison, at any two steps, walked. (Printed b -/
import Derived.Test.YtogipknpafkfpaaGreatDoorPpr14
import Derived.Test.YtogipknpafkfpaaGreatDoorPpr9
import Derived.Test.YtogipknpafkfpaaGreatDoorPpr10
import Derived.Test.YtogipknpafkfpaaGreatDoorPpr15
set_option linter.all false
set_option maxRecDepth 100000
namespace Go.Proofs.YtogipknpafkfpaaGreatDoor.Aw
open Go Go.RowKit
variable {G:Nat→Option (List AV)}
theorem take_ext2{α:Type}{a b:List α}(hl:a.length=b.length){i:Nat}(h:i<a.length)(ht:a.take i=b.take i)(he:a[i]=b[i]'(by omega)):a.take (i+1)=b.take (i+1):=by
 rw[List.take_add_one,List.take_add_one,ht,List.getElem?_eq_getElem h,List.getElem?_eq_getElem (show i<b.length by omega),he]
theorem sameTexts_ok(a b:List ByteArray)(hlen:a.length≤1000000000)(S:St):Triple P (C G) 26 [.sl .any 1 (rowsS a),.sl .any 1 (rowsS b)] S fun o S'=>o=.ret (.bool (decide (a=b)))∧S'=S:=by
 refine triple_of_awp (hT G) hm Tryz.func26 rfl (by decide +kernel) rfl (by decide +kernel) (by show 2≤_;decide +kernel) rfl ?_
 conv=>whnf
 intro _;conv=>whnf
 intro _;conv=>whnf
 refine split_of (fun hne=>?_) (fun hne=>?_)
 ·have hne:¬ a=b:=fun e=>by rw[e] at hne;simp at hne
  rw[decide_eq_false hne];conv=>whnf
  exact⟨_,_,⟨rfl,rfl⟩,St.le_refl _,AV.leS_refl _ _ _⟩
 have hl:a.length=b.length:=by rw[rowsS_len,rowsS_len] at hne;simp at hne;omega
 conv=>whnf
 refine⟨⟨Nat,fun i=>[(0,.sl .any 1 (rowsS a)),(1,.sl .any 1 (rowsS b)),(5,.int .i64 (i:Int))],fun i S'=>S'=S∧i≤a.length∧a.take i=b.take i,fun i=>a.length-i⟩,
  ⟨0,⟨⟨rfl,rfl⟩,⟨rfl,rfl⟩,rfl,trivial⟩,_,St.leW_refl _,rfl,by omega,rfl⟩,?_⟩
 rintro(i:Nat) S' ⟨rfl,hi,ht⟩;conv=>whnf
 intro _;conv=>whnf
 refine split_of (fun hlt=>?_) (fun hlt=>?_)
 ·have hlt:i<a.length:=by have:=of_decide_eq_true hlt;rw[rowsS_len] at this;omega
  have ga:(rowsS a)[(i:Int).toNat]? = some [.str a[i]]:=by simp[rowsS,hlt]
  have gb:(rowsS b)[(i:Int).toNat]? = some [.str (b[i]'(by omega))]:=by simp[rowsS,show i<b.length by omega]
  have hx:=take_ext2 hl hlt ht
  have hnx:a[i]≠b[i]'(by omega)→¬ a=b:=fun hn e=>hn (by subst e;rfl)
  generalize a[i]=x at *;generalize b[i]'(by omega)=y at *
  conv=>whnf
  refine⟨[],(.free 0 (.free 1 (.free 2 (.free 3 (.free 4 (.free 5 (.free 6 (.free 7 (.free 8 .done))))))))),_,by decide +kernel,?_,fun _ _ h=>⟨_,.inl rfl,h⟩⟩
  conv=>whnf
  refine⟨_,⟨by omega,ga⟩,?_⟩
  conv=>whnf
  refine⟨_,⟨by omega,gb⟩,?_⟩
  conv=>whnf
  refine split_of (fun hd=>?_) (fun hd=>?_)
  ·have hd:¬ x=y:=by simpa using hd
   rw[decide_eq_false (hnx hd)];conv=>whnf
   exact⟨_,_,⟨rfl,rfl⟩,St.le_refl _,AV.leS_refl _ _ _⟩
  have hd:x=y:=by simpa using hd
  have w1:IntKind.i64.wrap ((i:Int)+1)=((i+1:Nat):Int):=wrap_nat (by omega)
  conv=>whnf
  exact⟨i+1,⟨⟨rfl,rfl⟩,⟨rfl,rfl⟩,congrArg _ w1,trivial⟩,⟨_,St.leW_refl _,rfl,hlt,hx hd⟩,by show a.length-(i+1)<a.length-i;omega⟩
 ·have hlt:i=a.length:=by have:=of_decide_eq_false hlt;rw[rowsS_len] at this;omega
  have he:a=b:=by
   subst hlt;rw[List.take_length,hl,List.take_length] at ht;exact ht
  rw[decide_eq_true he];conv=>whnf
  exact⟨_,_,⟨rfl,rfl⟩,St.le_refl _,AV.leS_refl _ _ _⟩
theorem SameRow_ok(ps qs:List (ByteArray×Int))(bound bound':ByteArray)(hlen:ps.length≤1000000000)(S:St):Triple P (C G) 27 [.ag [.sl .any 2 (rowsP ps),.str bound],.ag [.sl .any 2 (rowsP qs),.str bound']] S fun o S'=>o=.ret (.bool (decide (ps=qs∧bound=bound')))∧S'=S:=by
 refine triple_of_awp (hT G) hm Tryz.func27 rfl (by decide +kernel) rfl (by decide +kernel) (by show 2≤_;decide +kernel) rfl ?_
 refine awp_seq2 fun K hK hQ=>?_
 conv=>whnf
 intro b2 hb2;conv=>whnf
 intro b3 hb3;conv=>whnf
 refine hK _ _ ?_;clear hK hQ K;have q2:((S.upd b2 (.obj 51 [.sl .any 2 (rowsP ps),.str bound])).upd b3 (.obj 51 [.sl .any 2 (rowsP qs),.str bound'])) b2=some (.obj 51 [.sl .any 2 (rowsP ps),.str bound]):=St.up hb3 (St.upd_same _ _ _);have q3:((S.upd b2 (.obj 51 [.sl .any 2 (rowsP ps),.str bound])).upd b3 (.obj 51 [.sl .any 2 (rowsP qs),.str bound'])) b3=some (.obj 51 [.sl .any 2 (rowsP qs),.str bound']):=St.upd_same _ _ _;have hle:St.le S ((S.upd b2 (.obj 51 [.sl .any 2 (rowsP ps),.str bound])).upd b3 (.obj 51 [.sl .any 2 (rowsP qs),.str bound'])):=St.le_upd' (St.le_upd' (St.le_refl _) hb2 _) hb3 _;generalize (S.upd b2 (.obj 51 [.sl .any 2 (rowsP ps),.str bound])).upd b3 (.obj 51 [.sl .any 2 (rowsP qs),.str bound'])=S1 at *;refine awp_seq2 fun K hK hQ=>?_
 conv=>whnf
 refine⟨_,_,q2,?_⟩;conv=>whnf
 intro _;conv=>whnf
 refine⟨_,_,q3,?_⟩;conv=>whnf
 intro _;conv=>whnf
 refine split_of (fun hne=>?_) (fun hne=>?_)
 ·have hne:¬ (ps=qs∧bound=bound'):=fun e=>by rw[e.1] at hne;simp at hne
  rw[decide_eq_false hne] at hQ;conv=>whnf
  refine hQ _ _ _ (by simp) ?_
  conv=>whnf
  exact⟨_,_,⟨rfl,rfl⟩,hle,AV.leS_refl _ _ _⟩
 have hl:ps.length=qs.length:=by rw[rowsP_len,rowsP_len] at hne;simp at hne;omega
 conv=>whnf
 refine⟨_,_,q2,?_⟩;conv=>whnf
 refine⟨_,_,q3,?_⟩;conv=>whnf
 refine split_of (fun hne=>?_) (fun hne=>?_)
 ·have hne:¬ (ps=qs∧bound=bound'):=fun e=>by rw[e.2] at hne;simp at hne
  rw[decide_eq_false hne] at hQ;conv=>whnf
  refine hQ _ _ _ (by simp) ?_
  conv=>whnf
  exact⟨_,_,⟨rfl,rfl⟩,hle,AV.leS_refl _ _ _⟩
 have hbb:bound=bound':=by simpa using hne
 conv=>whnf
 refine hK _ _ ?_;clear hK hQ K;conv=>whnf
 refine⟨⟨Nat,fun i=>[(2,.ref b2 0),(3,.ref b3 0),(5,.int .i64 (i:Int))],fun i S'=>S'=S1∧i≤ps.length∧ps.take i=qs.take i,fun i=>ps.length-i⟩,
  ⟨0,⟨rfl,rfl,rfl,trivial⟩,_,St.leW_refl _,rfl,by omega,rfl⟩,?_⟩
 rintro(i:Nat) S' ⟨rfl,hi,ht⟩;conv=>whnf
 refine⟨_,_,q2,?_⟩;conv=>whnf
 intro _;conv=>whnf
 refine split_of (fun hlt=>?_) (fun hlt=>?_)
 ·have hlt:i<ps.length:=by have:=of_decide_eq_true hlt;rw[rowsP_len] at this;omega
  have ga:(rowsP ps)[(i:Int).toNat]? = some [.str ps[i].1,.int .i64 ps[i].2]:=by simp[rowsP,hlt]
  have gb:(rowsP qs)[(i:Int).toNat]? = some [.str (qs[i]'(by omega)).1,.int .i64 (qs[i]'(by omega)).2]:=by simp[rowsP,show i<qs.length by omega]
  have hx:=take_ext2 hl hlt ht
  have hnx:ps[i]≠qs[i]'(by omega)→¬ (ps=qs∧bound=bound'):=fun hn e=>hn (by obtain⟨e,_⟩:=e;subst e;rfl)
  generalize ps[i]=x at *;generalize qs[i]'(by omega)=y at *
  obtain⟨x1,x2⟩:=x;obtain⟨y1,y2⟩:=y;dsimp only at ga gb;conv=>whnf
  refine⟨[],(.free 0 (.free 1 (.free 2 (.free 3 (.free 4 (.free 5 (.free 6 (.free 7 (.free 8 (.free 9 (.free 10 .done))))))))))),_,by decide +kernel,?_,fun _ _ h=>⟨_,.inl rfl,h⟩⟩
  conv=>whnf
  refine⟨_,_,q2,?_⟩;conv=>whnf
  refine⟨_,⟨by omega,ga⟩,?_⟩
  conv=>whnf
  refine⟨_,_,q3,?_⟩;conv=>whnf
  refine⟨_,⟨by omega,gb⟩,?_⟩
  conv=>whnf
  refine split_of (fun hd=>?_) (fun hd=>?_)
  ·have hd:(x1,x2)≠(y1,y2):=fun e=>by cases e;simp at hd
   rw[decide_eq_false (hnx hd)];conv=>whnf
   exact⟨_,_,⟨rfl,rfl⟩,hle,AV.leS_refl _ _ _⟩
  have hd:(x1,x2)=(y1,y2):=by simp at hd;rw[hd.1,hd.2]
  have w1:IntKind.i64.wrap ((i:Int)+1)=((i+1:Nat):Int):=wrap_nat (by omega)
  conv=>whnf
  exact⟨i+1,⟨rfl,rfl,congrArg _ w1,trivial⟩,⟨_,St.leW_refl _,rfl,hlt,hx hd⟩,by show ps.length-(i+1)<ps.length-i;omega⟩
 ·have hlt:i=ps.length:=by have:=of_decide_eq_false hlt;rw[rowsP_len] at this;omega
  have he:ps=qs:=by
   subst hlt;rw[List.take_length,hl,List.take_length] at ht;exact ht
  rw[decide_eq_true (show ps=qs∧bound=bound' from ⟨he,hbb⟩)];conv=>whnf
  exact⟨_,_,⟨rfl,rfl⟩,hle,AV.leS_refl _ _ _⟩
theorem Same_ok(v v':StepV)(h:LenStep v)(S:St):Triple P (C G) 12 [stepAV v,stepAV v'] S fun o S'=>o=.ret (.bool (decide (v=v')))∧S'=S:=by
 have hTx:=fun S=>sameTexts_ok (G:=G) v.ids v'.ids h.ids S
 have hR:=fun S=>SameRow_ok (G:=G) v.pieces v'.pieces v.bound v'.bound h.row S
 refine triple_of_awp (hT G) hm Tryz.func12 rfl (by decide +kernel) rfl (by decide +kernel) (by show 2≤_;decide +kernel) rfl ?_
 refine awp_seq2 fun K hK hQ=>?_
 conv=>whnf
 intro b2 hb2;conv=>whnf
 intro b3 hb3;conv=>whnf
 refine hK _ _ ?_;clear hK hQ K;have q2:((S.upd b2 (.obj 54 (stepR v))).upd b3 (.obj 54 (stepR v'))) b2=some (.obj 54 (stepR v)):=St.up hb3 (St.upd_same _ _ _);have q3:((S.upd b2 (.obj 54 (stepR v))).upd b3 (.obj 54 (stepR v'))) b3=some (.obj 54 (stepR v')):=St.upd_same _ _ _;have hle:St.le S ((S.upd b2 (.obj 54 (stepR v))).upd b3 (.obj 54 (stepR v'))):=St.le_upd' (St.le_upd' (St.le_refl _) hb2 _) hb3 _;refine awp_seq2 fun K hK hQ=>?_
 refine awp_seq2 fun K1 hK1 hQ1=>?_
 refine awp_region ?_;refine aOps_cut 5 fun K' hK'=>?_
 conv=>whnf
 refine⟨_,_,q2,?_⟩;conv=>whnf
 refine⟨_,_,q3,?_⟩;conv=>whnf
 by_cases hx:v.kind=v'.kind
 ·have g0:=hx
  rw[show(v.kind != v'.kind)=false from by simp[hx]]
  refine hK' _ _ ?_;clear hK' K';refine aOps_cut 7 fun K' hK'=>?_
  conv=>whnf
  refine⟨_,_,q2,?_⟩;conv=>whnf
  refine⟨_,_,q3,?_⟩;conv=>whnf
  by_cases hx:v.num=v'.num
  ·have g1:=hx
   rw[show(!decide (v.num=v'.num))=false from by simp[hx]]
   refine hK' _ _ ?_;clear hK' K';refine aOps_cut 7 fun K' hK'=>?_
   conv=>whnf
   refine⟨_,_,q2,?_⟩;conv=>whnf
   refine⟨_,_,q3,?_⟩;conv=>whnf
   by_cases hx:v.n6=v'.n6
   ·have g2:=hx
    rw[show(v.n6 != v'.n6)=false from by simp[hx]]
    refine hK' _ _ ?_;clear hK' K';refine aOps_cut 7 fun K' hK'=>?_
    conv=>whnf
    refine⟨_,_,q2,?_⟩;conv=>whnf
    refine⟨_,_,q3,?_⟩;conv=>whnf
    by_cases hx:v.s7=v'.s7
    ·have g3:=hx
     rw[show(!decide (v.s7=v'.s7))=false from by simp[hx]]
     refine hK' _ _ ?_;clear hK' K';refine aOps_cut 7 fun K' hK'=>?_
     conv=>whnf
     refine⟨_,_,q2,?_⟩;conv=>whnf
     refine⟨_,_,q3,?_⟩;conv=>whnf
     by_cases hx:v.s8=v'.s8
     ·have g4:=hx
      rw[show(!decide (v.s8=v'.s8))=false from by simp[hx]]
      refine hK' _ _ ?_;clear hK' K';refine aOps_cut 9 fun K' hK'=>?_
      conv=>whnf
      refine⟨_,_,q2,?_⟩;conv=>whnf
      intro _;conv=>whnf
      refine⟨_,_,q3,?_⟩;conv=>whnf
      intro _;conv=>whnf
      by_cases hx:v.ops.length=v'.ops.length
      ·have g5:=hx
       rw[show(((rowsO v.ops).length:Int) != ((rowsO v'.ops).length:Int))=false from by simp[hx]]
       refine hK' _ _ ?_;clear hK' K';refine aOps_cut 9 fun K' hK'=>?_
       conv=>whnf
       refine⟨_,_,q2,?_⟩;conv=>whnf
       intro _;conv=>whnf
       refine⟨_,_,q3,?_⟩;conv=>whnf
       intro _;conv=>whnf
       by_cases hx:v.lits.length=v'.lits.length
       ·have g6:=hx
        rw[show(((rowsI v.lits).length:Int) != ((rowsI v'.lits).length:Int))=false from by simp[hx]]
        refine hK' _ _ ?_;clear hK' K';refine aOps_cut 8 fun K' hK'=>?_
        conv=>whnf
        refine⟨_,_,q2,?_⟩;conv=>whnf
        refine⟨_,_,q3,?_⟩;conv=>whnf
        refine(hTx _).mono ?_;rintro o T ⟨rfl,rfl⟩;conv=>whnf
        by_cases hx:v.ids=v'.ids
        ·have g7:=hx
         rw[show(!decide (v.ids=v'.ids))=false from by simp[hx]]
         refine hK' _ _ ?_;clear hK' K';refine aOps_cut 8 fun K' hK'=>?_
         conv=>whnf
         refine⟨_,_,q2,?_⟩;conv=>whnf
         refine⟨_,_,q3,?_⟩;conv=>whnf
         refine(hR _).mono ?_;rintro o T ⟨rfl,rfl⟩;conv=>whnf
         by_cases hx:v.pieces=v'.pieces∧v.bound=v'.bound
         ·have g8:=hx
          rw[show(!decide (v.pieces=v'.pieces∧v.bound=v'.bound))=false from by simp[hx]]
          refine hK' _ _ ?_;clear hK' K';conv=>whnf
          refine hK1 _ _ ?_;clear hK1 hQ1 K1;conv=>whnf
          refine hK _ _ ?_;clear hK hQ K;refine awp_seq2 fun K hK hQ=>?_
          conv=>whnf
          refine⟨⟨Nat,fun i=>[(2,.ref b2 0),(3,.ref b3 0),(5,.int .i64 (i:Int))],fun i S'=>S'=(S.upd b2 (.obj 54 (stepR v))).upd b3 (.obj 54 (stepR v'))∧i≤v.ops.length∧v.ops.take i=v'.ops.take i,fun i=>v.ops.length-i⟩,
           ⟨0,⟨rfl,rfl,rfl,trivial⟩,_,St.leW_refl _,rfl,by omega,rfl⟩,?_⟩
          rintro(i:Nat) S' ⟨rfl,hi,ht⟩;conv=>whnf
          refine⟨_,_,q2,?_⟩;conv=>whnf
          intro _;conv=>whnf
          refine split_of (fun hlt=>?_) (fun hlt=>?_)
          ·have hlt:i<v.ops.length:=by have:=of_decide_eq_true hlt;rw[rowsO_len] at this;omega
           have ga:(rowsO v.ops)[(i:Int).toNat]? = some [.int .i64 v.ops[i].1,.str v.ops[i].2.1,.int .i64 v.ops[i].2.2]:=by simp[rowsO,hlt]
           have gb:(rowsO v'.ops)[(i:Int).toNat]? = some [.int .i64 (v'.ops[i]'(by omega)).1,.str (v'.ops[i]'(by omega)).2.1,.int .i64 (v'.ops[i]'(by omega)).2.2]:=by simp[rowsO,show i<v'.ops.length by omega]
           have hx:=take_ext2 g5 hlt ht
           have hnx:v.ops[i]≠v'.ops[i]'(by omega)→¬ v=v':=fun hn e=>hn (by subst e;rfl)
           generalize v.ops[i]=x at *;generalize v'.ops[i]'(by omega)=y at *
           obtain⟨x1,x2,x3⟩:=x;obtain⟨y1,y2,y3⟩:=y;dsimp only at ga gb;conv=>whnf
           refine⟨[],(.free 0 (.free 1 (.free 2 (.free 3 (.free 4 (.free 5 (.free 6 (.free 7 (.free 8 (.free 9 (.free 10 .done))))))))))),_,by decide +kernel,?_,fun _ _ h=>⟨_,.inl rfl,h⟩⟩
           conv=>whnf
           refine⟨_,_,q2,?_⟩;conv=>whnf
           refine⟨_,⟨by omega,ga⟩,?_⟩
           conv=>whnf
           refine⟨_,_,q3,?_⟩;conv=>whnf
           refine⟨_,⟨by omega,gb⟩,?_⟩
           conv=>whnf
           refine split_of (fun hd=>?_) (fun hd=>?_)
           ·have hd:(x1,x2,x3)≠(y1,y2,y3):=fun e=>by cases e;simp at hd
            rw[decide_eq_false (hnx hd)] at hQ;conv=>whnf
            refine hQ _ _ _ (by simp) ?_
            conv=>whnf
            exact⟨_,_,⟨rfl,rfl⟩,hle,AV.leS_refl _ _ _⟩
           have hd:(x1,x2,x3)=(y1,y2,y3):=by simp at hd;simp only[hd,Prod.mk.injEq,and_self]
           have w1:IntKind.i64.wrap ((i:Int)+1)=((i+1:Nat):Int):=wrap_nat (by have:=h.ops;have:=h.lits;omega)
           conv=>whnf
           exact⟨i+1,⟨rfl,rfl,congrArg _ w1,trivial⟩,⟨_,St.leW_refl _,rfl,hlt,hx hd⟩,by show v.ops.length-(i+1)<v.ops.length-i;omega⟩
          ·have hlt:i=v.ops.length:=by have:=of_decide_eq_false hlt;rw[rowsO_len] at this;omega
           have heops:v.ops=v'.ops:=by
            subst hlt;rw[List.take_length,g5,List.take_length] at ht;exact ht
           conv=>whnf
           refine hK _ _ ?_;clear hK hQ K;conv=>whnf
           refine⟨⟨Nat,fun i=>[(2,.ref b2 0),(3,.ref b3 0),(6,.int .i64 (i:Int))],fun i S'=>S'=(S.upd b2 (.obj 54 (stepR v))).upd b3 (.obj 54 (stepR v'))∧i≤v.lits.length∧v.lits.take i=v'.lits.take i,fun i=>v.lits.length-i⟩,
            ⟨0,⟨rfl,rfl,rfl,trivial⟩,_,St.leW_refl _,rfl,by omega,rfl⟩,?_⟩
           rintro(i:Nat) S' ⟨rfl,hi,ht⟩;conv=>whnf
           refine⟨_,_,q2,?_⟩;conv=>whnf
           intro _;conv=>whnf
           refine split_of (fun hlt=>?_) (fun hlt=>?_)
           ·have hlt:i<v.lits.length:=by have:=of_decide_eq_true hlt;rw[rowsI_len] at this;omega
            have ga:(rowsI v.lits)[(i:Int).toNat]? = some [.int .i64 v.lits[i]]:=by simp[rowsI,hlt]
            have gb:(rowsI v'.lits)[(i:Int).toNat]? = some [.int .i64 (v'.lits[i]'(by omega))]:=by simp[rowsI,show i<v'.lits.length by omega]
            have hx:=take_ext2 g6 hlt ht
            have hnx:v.lits[i]≠v'.lits[i]'(by omega)→¬ v=v':=fun hn e=>hn (by subst e;rfl)
            generalize v.lits[i]=x at *;generalize v'.lits[i]'(by omega)=y at *
            skip
            conv=>whnf
            refine⟨[],(.free 0 (.free 1 (.free 2 (.free 3 (.free 4 (.free 5 (.free 6 (.free 7 (.free 8 (.free 9 (.free 10 .done))))))))))),_,by decide +kernel,?_,fun _ _ h=>⟨_,.inl rfl,h⟩⟩
            conv=>whnf
            refine⟨_,_,q2,?_⟩;conv=>whnf
            refine⟨_,⟨by omega,ga⟩,?_⟩
            conv=>whnf
            refine⟨_,_,q3,?_⟩;conv=>whnf
            refine⟨_,⟨by omega,gb⟩,?_⟩
            conv=>whnf
            refine split_of (fun hd=>?_) (fun hd=>?_)
            ·have hd:x≠y:=fun e=>by cases e;simp at hd
             rw[decide_eq_false (hnx hd)];conv=>whnf
             exact⟨_,_,⟨rfl,rfl⟩,hle,AV.leS_refl _ _ _⟩
            have hd:x=y:=by simpa using hd
            have w1:IntKind.i64.wrap ((i:Int)+1)=((i+1:Nat):Int):=wrap_nat (by have:=h.ops;have:=h.lits;omega)
            conv=>whnf
            exact⟨i+1,⟨rfl,rfl,congrArg _ w1,trivial⟩,⟨_,St.leW_refl _,rfl,hlt,hx hd⟩,by show v.lits.length-(i+1)<v.lits.length-i;omega⟩
           ·have hlt:i=v.lits.length:=by have:=of_decide_eq_false hlt;rw[rowsI_len] at this;omega
            have helits:v.lits=v'.lits:=by
             subst hlt;rw[List.take_length,g6,List.take_length] at ht;exact ht
            rw[decide_eq_true ((stepV_iff v v').2 ⟨g0,g1,g2,g3,g4,g8.2,heops,g8.1,helits,g7⟩)];conv=>whnf
            exact⟨_,_,⟨rfl,rfl⟩,hle,AV.leS_refl _ _ _⟩
         ·rw[show(!decide (v.pieces=v'.pieces∧v.bound=v'.bound))=true from by simp[hx]]
          refine hK' _ _ ?_;clear hK' K';conv=>whnf
          refine hK1 _ _ ?_;clear hK1 hQ1 K1;rw[decide_eq_false (fun e=>hx (by subst e;first | rfl | exact⟨rfl,rfl⟩))] at hQ
          conv=>whnf
          refine hQ _ _ _ (by simp) ?_
          conv=>whnf
          exact⟨_,_,⟨rfl,rfl⟩,hle,AV.leS_refl _ _ _⟩
        ·rw[show(!decide (v.ids=v'.ids))=true from by simp[hx]]
         refine hK' _ _ ?_;clear hK' K';refine aOps_cut 8 fun K' hK'=>?_
         conv=>whnf
         refine hK' _ _ ?_;clear hK' K';conv=>whnf
         refine hK1 _ _ ?_;clear hK1 hQ1 K1;rw[decide_eq_false (fun e=>hx (by subst e;first | rfl | exact⟨rfl,rfl⟩))] at hQ
         conv=>whnf
         refine hQ _ _ _ (by simp) ?_
         conv=>whnf
         exact⟨_,_,⟨rfl,rfl⟩,hle,AV.leS_refl _ _ _⟩
       ·rw[show(((rowsI v.lits).length:Int) != ((rowsI v'.lits).length:Int))=true from by simp;omega]
        refine hK' _ _ ?_;clear hK' K';refine aOps_cut 8 fun K' hK'=>?_
        conv=>whnf
        refine hK' _ _ ?_;clear hK' K';refine aOps_cut 8 fun K' hK'=>?_
        conv=>whnf
        refine hK' _ _ ?_;clear hK' K';conv=>whnf
        refine hK1 _ _ ?_;clear hK1 hQ1 K1;rw[decide_eq_false (fun e=>hx (by subst e;first | rfl | exact⟨rfl,rfl⟩))] at hQ
        conv=>whnf
        refine hQ _ _ _ (by simp) ?_
        conv=>whnf
        exact⟨_,_,⟨rfl,rfl⟩,hle,AV.leS_refl _ _ _⟩
      ·rw[show(((rowsO v.ops).length:Int) != ((rowsO v'.ops).length:Int))=true from by simp;omega]
       refine hK' _ _ ?_;clear hK' K';refine aOps_cut 9 fun K' hK'=>?_
       conv=>whnf
       refine hK' _ _ ?_;clear hK' K';refine aOps_cut 8 fun K' hK'=>?_
       conv=>whnf
       refine hK' _ _ ?_;clear hK' K';refine aOps_cut 8 fun K' hK'=>?_
       conv=>whnf
       refine hK' _ _ ?_;clear hK' K';conv=>whnf
       refine hK1 _ _ ?_;clear hK1 hQ1 K1;rw[decide_eq_false (fun e=>hx (by subst e;first | rfl | exact⟨rfl,rfl⟩))] at hQ
       conv=>whnf
       refine hQ _ _ _ (by simp) ?_
       conv=>whnf
       exact⟨_,_,⟨rfl,rfl⟩,hle,AV.leS_refl _ _ _⟩
     ·rw[show(!decide (v.s8=v'.s8))=true from by simp[hx]]
      refine hK' _ _ ?_;clear hK' K';refine aOps_cut 9 fun K' hK'=>?_
      conv=>whnf
      refine hK' _ _ ?_;clear hK' K';refine aOps_cut 9 fun K' hK'=>?_
      conv=>whnf
      refine hK' _ _ ?_;clear hK' K';refine aOps_cut 8 fun K' hK'=>?_
      conv=>whnf
      refine hK' _ _ ?_;clear hK' K';refine aOps_cut 8 fun K' hK'=>?_
      conv=>whnf
      refine hK' _ _ ?_;clear hK' K';conv=>whnf
      refine hK1 _ _ ?_;clear hK1 hQ1 K1;rw[decide_eq_false (fun e=>hx (by subst e;first | rfl | exact⟨rfl,rfl⟩))] at hQ
      conv=>whnf
      refine hQ _ _ _ (by simp) ?_
      conv=>whnf
      exact⟨_,_,⟨rfl,rfl⟩,hle,AV.leS_refl _ _ _⟩
    ·rw[show(!decide (v.s7=v'.s7))=true from by simp[hx]]
     refine hK' _ _ ?_;clear hK' K';refine aOps_cut 7 fun K' hK'=>?_
     conv=>whnf
     refine hK' _ _ ?_;clear hK' K';refine aOps_cut 9 fun K' hK'=>?_
     conv=>whnf
     refine hK' _ _ ?_;clear hK' K';refine aOps_cut 9 fun K' hK'=>?_
     conv=>whnf
     refine hK' _ _ ?_;clear hK' K';refine aOps_cut 8 fun K' hK'=>?_
     conv=>whnf
     refine hK' _ _ ?_;clear hK' K';refine aOps_cut 8 fun K' hK'=>?_
     conv=>whnf
     refine hK' _ _ ?_;clear hK' K';conv=>whnf
     refine hK1 _ _ ?_;clear hK1 hQ1 K1;rw[decide_eq_false (fun e=>hx (by subst e;first | rfl | exact⟨rfl,rfl⟩))] at hQ
     conv=>whnf
     refine hQ _ _ _ (by simp) ?_
     conv=>whnf
     exact⟨_,_,⟨rfl,rfl⟩,hle,AV.leS_refl _ _ _⟩
   ·rw[show(v.n6 != v'.n6)=true from by simp[hx]]
    refine hK' _ _ ?_;clear hK' K';refine aOps_cut 7 fun K' hK'=>?_
    conv=>whnf
    refine hK' _ _ ?_;clear hK' K';refine aOps_cut 7 fun K' hK'=>?_
    conv=>whnf
    refine hK' _ _ ?_;clear hK' K';refine aOps_cut 9 fun K' hK'=>?_
    conv=>whnf
    refine hK' _ _ ?_;clear hK' K';refine aOps_cut 9 fun K' hK'=>?_
    conv=>whnf
    refine hK' _ _ ?_;clear hK' K';refine aOps_cut 8 fun K' hK'=>?_
    conv=>whnf
    refine hK' _ _ ?_;clear hK' K';refine aOps_cut 8 fun K' hK'=>?_
    conv=>whnf
    refine hK' _ _ ?_;clear hK' K';conv=>whnf
    refine hK1 _ _ ?_;clear hK1 hQ1 K1;rw[decide_eq_false (fun e=>hx (by subst e;first | rfl | exact⟨rfl,rfl⟩))] at hQ
    conv=>whnf
    refine hQ _ _ _ (by simp) ?_
    conv=>whnf
    exact⟨_,_,⟨rfl,rfl⟩,hle,AV.leS_refl _ _ _⟩
  ·rw[show(!decide (v.num=v'.num))=true from by simp[hx]]
   refine hK' _ _ ?_;clear hK' K';refine aOps_cut 7 fun K' hK'=>?_
   conv=>whnf
   refine hK' _ _ ?_;clear hK' K';refine aOps_cut 7 fun K' hK'=>?_
   conv=>whnf
   refine hK' _ _ ?_;clear hK' K';refine aOps_cut 7 fun K' hK'=>?_
   conv=>whnf
   refine hK' _ _ ?_;clear hK' K';refine aOps_cut 9 fun K' hK'=>?_
   conv=>whnf
   refine hK' _ _ ?_;clear hK' K';refine aOps_cut 9 fun K' hK'=>?_
   conv=>whnf
   refine hK' _ _ ?_;clear hK' K';refine aOps_cut 8 fun K' hK'=>?_
   conv=>whnf
   refine hK' _ _ ?_;clear hK' K';refine aOps_cut 8 fun K' hK'=>?_
   conv=>whnf
   refine hK' _ _ ?_;clear hK' K';conv=>whnf
   refine hK1 _ _ ?_;clear hK1 hQ1 K1;rw[decide_eq_false (fun e=>hx (by subst e;first | rfl | exact⟨rfl,rfl⟩))] at hQ
   conv=>whnf
   refine hQ _ _ _ (by simp) ?_
   conv=>whnf
   exact⟨_,_,⟨rfl,rfl⟩,hle,AV.leS_refl _ _ _⟩
 ·rw[show(v.kind != v'.kind)=true from by simp[hx]]
  refine hK' _ _ ?_;clear hK' K';refine aOps_cut 7 fun K' hK'=>?_
  conv=>whnf
  refine hK' _ _ ?_;clear hK' K';refine aOps_cut 7 fun K' hK'=>?_
  conv=>whnf
  refine hK' _ _ ?_;clear hK' K';refine aOps_cut 7 fun K' hK'=>?_
  conv=>whnf
  refine hK' _ _ ?_;clear hK' K';refine aOps_cut 7 fun K' hK'=>?_
  conv=>whnf
  refine hK' _ _ ?_;clear hK' K';refine aOps_cut 9 fun K' hK'=>?_
  conv=>whnf
  refine hK' _ _ ?_;clear hK' K';refine aOps_cut 9 fun K' hK'=>?_
  conv=>whnf
  refine hK' _ _ ?_;clear hK' K';refine aOps_cut 8 fun K' hK'=>?_
  conv=>whnf
  refine hK' _ _ ?_;clear hK' K';refine aOps_cut 8 fun K' hK'=>?_
  conv=>whnf
  refine hK' _ _ ?_;clear hK' K';conv=>whnf
  refine hK1 _ _ ?_;clear hK1 hQ1 K1;rw[decide_eq_false (fun e=>hx (by subst e;first | rfl | exact⟨rfl,rfl⟩))] at hQ
  conv=>whnf
  refine hQ _ _ _ (by simp) ?_
  conv=>whnf
  exact⟨_,_,⟨rfl,rfl⟩,hle,AV.leS_refl _ _ _⟩
def rowsN(l:List Nat):List (List AV):=l.map fun(d:Nat)=>[AV.int .i64 (d:Int)]
@[simp] theorem rowsN_len (l:List Nat):(rowsN l).length=l.length:=by simp[rowsN]
def refI(z:Int):AV:=.ag [.bool (decide (z<0)),.sl .any 1 (rowsN (limbs z.natAbs))]
theorem rowsN_take(l:List Nat)(n:Nat):(rowsN l).take n=rowsN (l.take n):=by simp[rowsN,List.map_take]
theorem rsize_ok(l:List Nat)(S:St):Triple P (C G) 152 [.sl .any 1 (rowsN l)] S fun o S'=>o=.ret (.sl .any 1 (rowsN (trimZ l)))∧S'=S:=by
 refine triple_of_awp (hT G) hm Tryz.func152 rfl (by decide +kernel) rfl (by decide +kernel) (by show 1≤_;decide +kernel) rfl ?_
 conv=>whnf
 intro hlen;rw[rowsN_len] at hlen;conv=>whnf
 refine⟨⟨Nat,fun n=>[(0,.sl .any 1 (rowsN l)),(3,.int .i64 (n:Int))],fun n S'=>S'=S∧n≤l.length∧trimZ (l.take n)=trimZ l,fun n=>n⟩,
  ⟨l.length,⟨⟨rfl,rfl⟩,congrArg (AV.int .i64) (by rw[rowsN_len]),trivial⟩,_,St.leW_refl _,rfl,by omega,by rw[List.take_length]⟩,?_⟩
 rintro(n:Nat) S' ⟨rfl,hn,ht⟩
 cases n with
 | zero=>
   conv=>whnf
   refine⟨⟨by decide,by omega,by rw[rowsN_len];omega⟩,?_⟩
   conv=>whnf
   refine⟨_,_,⟨rfl,rfl⟩,St.le_refl _,?_⟩;rw[← ht];exact AV.leS_refl _ _ _
 | succ k=>
   have hk:k<l.length:=by omega
   have w1:IntKind.i64.wrap (((k+1:Nat):Int)-1)=(k:Int):=by rw[wrap_i64 (by omega) (by omega)];omega
   have ga:(rowsN l)[(k:Int).toNat]? = some [.int .i64 ((l[k]:Nat):Int)]:=by simp[rowsN,hk]
   have hd:l.take (k+1)=l.take k++[l[k]]:=by rw[List.take_succ_eq_append_getElem hk]
   rw[hd] at ht
   by_cases hz:l[k]=0
   ·rw[hz] at ga ht;rw[trimZ_zero] at ht;conv=>whnf
    rw[show decide (((k+1:Nat):Int) > 0)=true from decide_eq_true (by omega)]
    conv=>whnf
    rw[w1];refine⟨_,⟨by omega,ga⟩,?_⟩
    conv=>whnf
    rw[w1];exact⟨k,⟨⟨rfl,rfl⟩,rfl,trivial⟩,⟨_,St.leW_refl _,rfl,by omega,ht⟩,by show k<k+1;omega⟩
   ·rw[trimZ_pos _ hz] at ht;generalize hgk:l[k]=d at *;conv=>whnf
    rw[show decide (((k+1:Nat):Int) > 0)=true from decide_eq_true (by omega)]
    conv=>whnf
    rw[w1];refine⟨_,⟨by omega,ga⟩,?_⟩
    conv=>whnf
    rw[show((d:Int) == 0)=false from beq_false_of_ne (by omega)]
    conv=>whnf
    refine⟨⟨by decide,by omega,by rw[rowsN_len];omega⟩,?_⟩
    conv=>whnf
    refine⟨_,_,⟨rfl,rfl⟩,St.le_refl _,?_⟩;rw[← ht,← hd,← rowsN_take];exact AV.leS_refl _ _ _
theorem refI_made{neg:Bool}{l:List Nat}(hd:∀ d∈l,d<1000000000):AV.ag [.bool (neg && decide (0<(trimZ l).length)),.sl .any 1 (rowsN (trimZ l))]=refI (if neg then -(valL l:Int) else (valL l:Int)):=by
 rw[trim_limbs hd];unfold refI;have h0:0<(limbs (valL l)).length↔0<valL l:=by
  constructor
  ·intro h
   rcases Nat.eq_zero_or_pos (valL l) with e | e
   ·rw[e] at h;simp[limbs_zero] at h
   ·exact e
  ·intro h;exact List.length_pos_iff.2 (limbs_ne h)
 cases neg with
 | false=>simp
 | true=>
   simp only[Bool.true_and,if_true,Int.natAbs_neg,Int.natAbs_natCast]
   congr 2
   congr 1
   rw[decide_eq_decide,h0];omega
theorem made1_ok(neg:Bool)(l:List Nat)(hd:∀ d∈l,d<1000000000)(S:St):Triple P (C G) 136 [.bool neg,.sl .any 1 (rowsN l)] S fun o S'=>o=.ret (refI (if neg then -(valL l:Int) else (valL l:Int)))∧S'=S:=by
 have hs:=fun S=>rsize_ok (G:=G) l S
 rw[← refI_made hd];generalize trimZ l=r at *;refine triple_of_awp (hT G) hm Tryz.func136 rfl (by decide +kernel) rfl (by decide +kernel) (by show 2≤_;decide +kernel) rfl ?_
 conv=>whnf
 intro b4 hb4;conv=>whnf
 refine(hs _).mono ?_;rintro o T ⟨rfl,rfl⟩;conv=>whnf
 cases neg with
 | false=>
   conv=>whnf
   refine⟨_,_,St.upd_same _ _ _,?_⟩;conv=>whnf
   refine⟨_,_,St.upd_same _ _ _,?_⟩;conv=>whnf
   exact⟨_,_,⟨rfl,rfl⟩,by rw[St.upd_upd];exact St.le_upd' (St.le_refl _) hb4 _,AV.leS_refl _ _ _⟩
 | true=>
   conv=>whnf
   intro _;conv=>whnf
   refine⟨_,_,St.upd_same _ _ _,?_⟩;conv=>whnf
   refine⟨_,_,St.upd_same _ _ _,?_⟩;conv=>whnf
   refine⟨_,_,⟨rfl,rfl⟩,by rw[St.upd_upd];exact St.le_upd' (St.le_refl _) hb4 _,?_⟩
   have e:decide (((rowsN r).length:Int) > 0)=(true && decide (0<r.length)):=by
    rw[rowsN_len,Bool.true_and,decide_eq_decide];omega
   rw[e];exact AV.leS_refl _ _ _
theorem Sign1_ok(z:Int)(S:St):Triple P (C G) 108 [refI z] S fun o S'=>o=.ret (.int .i64 (if z=0 then 0 else if z<0 then -1 else 1))∧S'=S:=by
 have h0:(limbs z.natAbs).length=0↔z=0:=by
  constructor
  ·intro h
   by_cases hz:z=0
   ·exact hz
   ·exact absurd (List.eq_nil_of_length_eq_zero h) (limbs_ne (by omega))
  ·intro h;subst h;rfl
 unfold refI
 by_cases hz:z=0
 ·subst hz;refine triple_of_awp (hT G) hm Tryz.func108 rfl (by decide +kernel) rfl (by decide +kernel) (by show 1≤_;decide +kernel) rfl ?_
  conv=>whnf
  intro b hb;conv=>whnf
  refine⟨_,_,St.upd_same _ _ _,?_⟩;conv=>whnf
  intro _;conv=>whnf
  exact⟨_,_,⟨rfl,rfl⟩,St.le_upd' (St.le_refl _) hb _,AV.leS_refl _ _ _⟩
 ·have hne:((limbs z.natAbs).length:Int)≠0:=by
   intro h;exact hz (h0.1 (by omega))
  rw[if_neg hz];generalize limbs z.natAbs=l at *
  by_cases hn:z<0
  ·rw[if_pos hn,decide_eq_true hn];refine triple_of_awp (hT G) hm Tryz.func108 rfl (by decide +kernel) rfl (by decide +kernel) (by show 1≤_;decide +kernel) rfl ?_
   conv=>whnf
   intro b hb;conv=>whnf
   refine⟨_,_,St.upd_same _ _ _,?_⟩;conv=>whnf
   intro _;conv=>whnf
   rw[show(((rowsN l).length:Int) == 0)=false from by rw[rowsN_len];exact beq_false_of_ne hne]
   conv=>whnf
   refine⟨_,_,St.upd_same _ _ _,?_⟩;conv=>whnf
   exact⟨_,_,⟨rfl,rfl⟩,St.le_upd' (St.le_refl _) hb _,AV.leS_refl _ _ _⟩
  ·rw[if_neg hn,decide_eq_false hn];refine triple_of_awp (hT G) hm Tryz.func108 rfl (by decide +kernel) rfl (by decide +kernel) (by show 1≤_;decide +kernel) rfl ?_
   conv=>whnf
   intro b hb;conv=>whnf
   refine⟨_,_,St.upd_same _ _ _,?_⟩;conv=>whnf
   intro _;conv=>whnf
   rw[show(((rowsN l).length:Int) == 0)=false from by rw[rowsN_len];exact beq_false_of_ne hne]
   conv=>whnf
   refine⟨_,_,St.upd_same _ _ _,?_⟩;conv=>whnf
   exact⟨_,_,⟨rfl,rfl⟩,St.le_upd' (St.le_refl _) hb _,AV.leS_refl _ _ _⟩
def cmpN(x y:Nat):Int:=if x<y then -1 else if y<x then 1 else 0
theorem rsizes_ok(x y:Nat)(S:St):Triple P (C G) 151 [.sl .any 1 (rowsN (limbs x)),.sl .any 1 (rowsN (limbs y))] S fun o S'=>o=.ret (.int .i64 (cmpN x y))∧S'=S:=by
 have hxv:=valL_limbs x
 have hyv:=valL_limbs y
 have hxd:=limbs_lt x
 have hyd:=limbs_lt y
 have hlo:(limbs y).length<(limbs x).length→y<x:=limbs_longer
 have hlo2:(limbs x).length<(limbs y).length→x<y:=limbs_longer
 have heq:limbs x=limbs y→x=y:=fun h=>by rw[← hxv,← hyv,h]
 generalize limbs x=a at *;generalize limbs y=b at *;unfold cmpN;refine triple_of_awp (hT G) hm Tryz.func151 rfl (by decide +kernel) rfl (by decide +kernel) (by show 2≤_;decide +kernel) rfl ?_
 conv=>whnf
 intro hla;conv=>whnf
 intro hlb;rw[rowsN_len] at hla hlb;conv=>whnf
 refine split_of (fun h=>?_) (fun h=>?_)
 ·have h:a.length≠b.length:=by
   intro hh;rw[rowsN_len,rowsN_len,hh] at h;simp at h
  conv=>whnf
  intro _;conv=>whnf
  intro _;conv=>whnf
  refine split_of (fun h2=>?_) (fun h2=>?_)
  ·have h2:=of_decide_eq_true h2
   rw[rowsN_len,rowsN_len] at h2;have:=hlo2 (by omega)
   rw[if_pos this];conv=>whnf
   exact⟨_,_,⟨rfl,rfl⟩,St.le_refl _,AV.leS_refl _ _ _⟩
  ·have h2:=of_decide_eq_false h2
   rw[rowsN_len,rowsN_len] at h2;have:=hlo (by omega)
   rw[if_neg (by omega),if_pos this]
   conv=>whnf
   exact⟨_,_,⟨rfl,rfl⟩,St.le_refl _,AV.leS_refl _ _ _⟩
 ·have h:a.length=b.length:=by
   by_cases hh:a.length=b.length
   ·exact hh
   ·exfalso;rw[rowsN_len,rowsN_len] at h;simp at h;omega
  conv=>whnf
  intro _;conv=>whnf
  have hw0:IntKind.i64.wrap (((rowsN a).length:Int)-1)=(a.length:Int)-1:=by rw[rowsN_len,wrap_i64 (by omega) (by omega)]
  refine⟨⟨Nat,fun i=>[(0,.sl .any 1 (rowsN a)),(1,.sl .any 1 (rowsN b)),(5,.int .i64 ((i:Int)-1))],fun i S'=>S'=S∧i≤a.length∧a.drop i=b.drop i,fun i=>i⟩,
   ⟨a.length,⟨⟨rfl,rfl⟩,⟨rfl,rfl⟩,congrArg _ hw0,trivial⟩,_,St.leW_refl _,rfl,by omega,by rw[List.drop_of_length_le (by omega),List.drop_of_length_le (by omega)]⟩,?_⟩
  rintro(i:Nat) S' ⟨rfl,hi,he⟩;conv=>whnf
  refine split_of (fun hlt=>?_) (fun hlt=>?_)
  ·have hlt:1≤i:=by have:=of_decide_eq_true hlt;omega
   obtain⟨k,rfl⟩:∃ k,i=k+1:=⟨i-1,by omega⟩
   have hka:k<a.length:=by omega
   have hkb:k<b.length:=by omega
   have ek:(((k+1:Nat):Int)-1)=(k:Int):=by omega
   have ga:(rowsN a)[(((k+1:Nat):Int)-1).toNat]? = some [.int .i64 ((a[k]:Nat):Int)]:=by rw[ek];simp[rowsN,hka]
   have gb:(rowsN b)[(((k+1:Nat):Int)-1).toNat]? = some [.int .i64 ((b[k]:Nat):Int)]:=by rw[ek];simp[rowsN,hkb]
   have w1:IntKind.i64.wrap (((k+1:Nat):Int)-1-1)=(k:Int)-1:=by rw[wrap_i64 (by omega) (by omega)];omega
   have v1:a[k]<b[k]→x<y:=fun h4=>by have:=valL_cmp hxd hyd h hka he h4;omega
   have v2:b[k]<a[k]→y<x:=fun h4=>by have:=valL_cmp hyd hxd h.symm hkb he.symm h4;omega
   have v3:a[k]=b[k]→a.drop k=b.drop k:=fun h4=>by rw[List.drop_eq_getElem_cons hka,List.drop_eq_getElem_cons hkb,h4,he]
   generalize a[k]=p at *;generalize b[k]=q at *;conv=>whnf
   refine⟨[],(.free 0 (.free 1 (.free 2 (.free 3 (.free 4 (.free 5 (.free 6 (.free 7 (.free 8 .done))))))))),_,by decide +kernel,?_,fun _ _ h=>⟨_,.inl rfl,h⟩⟩
   conv=>whnf
   refine⟨_,⟨by omega,ga⟩,?_⟩
   conv=>whnf
   refine⟨_,⟨by omega,gb⟩,?_⟩
   conv=>whnf
   refine split_of (fun h2=>?_) (fun h2=>?_)
   ·have h2:=of_decide_eq_true h2
    rw[if_pos (v1 (by omega))]
    conv=>whnf
    exact⟨_,_,⟨rfl,rfl⟩,St.le_refl _,AV.leS_refl _ _ _⟩
   ·have h2:=of_decide_eq_false h2
    conv=>whnf
    refine⟨[],(.free 0 (.free 1 (.free 2 (.free 3 (.free 4 (.free 5 (.free 6 (.free 7 (.free 8 .done))))))))),_,by decide +kernel,?_,fun _ _ h=>⟨_,.inl rfl,h⟩⟩
    conv=>whnf
    refine⟨_,⟨by omega,ga⟩,?_⟩
    conv=>whnf
    refine⟨_,⟨by omega,gb⟩,?_⟩
    conv=>whnf
    refine split_of (fun h3=>?_) (fun h3=>?_)
    ·have h3:=of_decide_eq_true h3
     have:=v2 (by omega)
     rw[if_neg (by omega),if_pos this]
     conv=>whnf
     exact⟨_,_,⟨rfl,rfl⟩,St.le_refl _,AV.leS_refl _ _ _⟩
    ·have h3:=of_decide_eq_false h3
     conv=>whnf
     exact⟨k,⟨⟨rfl,rfl⟩,⟨rfl,rfl⟩,congrArg _ w1,trivial⟩,⟨_,St.leW_refl _,rfl,by omega,v3 (by omega)⟩,by show k<k+1;omega⟩
  ·have hlt:i=0:=by have:=of_decide_eq_false hlt;omega
   subst hlt;have:=heq (by simpa using he)
   rw[if_neg (by omega),if_neg (by omega)]
   conv=>whnf
   exact⟨_,_,⟨rfl,rfl⟩,St.le_refl _,AV.leS_refl _ _ _⟩
def cmpI(x y:Int):Int:=if x<y then -1 else if y<x then 1 else 0
theorem Cmp1_ok(x y:Int)(S:St):Triple P (C G) 132 [refI x,refI y] S fun o S'=>o=.ret (.int .i64 (cmpI x y))∧S'=S:=by
 have hs:=fun S=>rsizes_ok (G:=G) x.natAbs y.natAbs S
 have hwn:IntKind.i64.wrap (0-cmpN x.natAbs y.natAbs)=- cmpN x.natAbs y.natAbs:=by
  unfold cmpN
  split
  ·decide
  split
  ·decide
  ·decide
 unfold refI
 by_cases hx:x<0<;>by_cases hy:y<0
 ·have e:cmpI x y=- cmpN x.natAbs y.natAbs:=by unfold cmpI cmpN;split<;>split<;>(try split)<;>omega
  rw[decide_eq_true hx,decide_eq_true hy,e];generalize cmpN x.natAbs y.natAbs=c at *;generalize limbs x.natAbs=a at *;generalize limbs y.natAbs=b at *;refine triple_of_awp (hT G) hm Tryz.func132 rfl (by decide +kernel) rfl (by decide +kernel) (by show 2≤_;decide +kernel) rfl ?_
  conv=>whnf
  intro b2 hb2;conv=>whnf
  intro b3 hb3;conv=>whnf
  refine⟨_,_,St.up hb3 (St.upd_same _ _ _),?_⟩;conv=>whnf
  refine⟨_,_,St.upd_same _ _ _,?_⟩;conv=>whnf
  refine⟨_,_,St.up hb3 (St.upd_same _ _ _),?_⟩;conv=>whnf
  refine⟨_,_,St.upd_same _ _ _,?_⟩;conv=>whnf
  refine(hs _).mono ?_;rintro o T ⟨rfl,rfl⟩;conv=>whnf
  refine⟨_,_,St.up hb3 (St.upd_same _ _ _),?_⟩;conv=>whnf
  refine⟨_,_,⟨rfl,rfl⟩,St.le_upd' (St.le_upd' (St.le_refl _) hb2 _) hb3 _,?_⟩;rw[hwn];exact AV.leS_refl _ _ _
 ·have e:cmpI x y=-1:=by unfold cmpI;rw[if_pos (by omega)]
  rw[decide_eq_true hx,decide_eq_false hy,e];generalize limbs x.natAbs=a at *;generalize limbs y.natAbs=b at *;refine triple_of_awp (hT G) hm Tryz.func132 rfl (by decide +kernel) rfl (by decide +kernel) (by show 2≤_;decide +kernel) rfl ?_
  conv=>whnf
  intro b2 hb2;conv=>whnf
  intro b3 hb3;conv=>whnf
  refine⟨_,_,St.up hb3 (St.upd_same _ _ _),?_⟩;conv=>whnf
  refine⟨_,_,St.upd_same _ _ _,?_⟩;conv=>whnf
  refine⟨_,_,St.up hb3 (St.upd_same _ _ _),?_⟩;conv=>whnf
  exact⟨_,_,⟨rfl,rfl⟩,St.le_upd' (St.le_upd' (St.le_refl _) hb2 _) hb3 _,AV.leS_refl _ _ _⟩
 ·have e:cmpI x y=1:=by unfold cmpI;rw[if_neg (by omega),if_pos (by omega)]
  rw[decide_eq_false hx,decide_eq_true hy,e];generalize limbs x.natAbs=a at *;generalize limbs y.natAbs=b at *;refine triple_of_awp (hT G) hm Tryz.func132 rfl (by decide +kernel) rfl (by decide +kernel) (by show 2≤_;decide +kernel) rfl ?_
  conv=>whnf
  intro b2 hb2;conv=>whnf
  intro b3 hb3;conv=>whnf
  refine⟨_,_,St.up hb3 (St.upd_same _ _ _),?_⟩;conv=>whnf
  refine⟨_,_,St.upd_same _ _ _,?_⟩;conv=>whnf
  refine⟨_,_,St.up hb3 (St.upd_same _ _ _),?_⟩;conv=>whnf
  exact⟨_,_,⟨rfl,rfl⟩,St.le_upd' (St.le_upd' (St.le_refl _) hb2 _) hb3 _,AV.leS_refl _ _ _⟩
 ·have e:cmpI x y=cmpN x.natAbs y.natAbs:=by unfold cmpI cmpN;split<;>split<;>(try split)<;>omega
  rw[decide_eq_false hx,decide_eq_false hy,e];generalize cmpN x.natAbs y.natAbs=c at *;generalize limbs x.natAbs=a at *;generalize limbs y.natAbs=b at *;refine triple_of_awp (hT G) hm Tryz.func132 rfl (by decide +kernel) rfl (by decide +kernel) (by show 2≤_;decide +kernel) rfl ?_
  conv=>whnf
  intro b2 hb2;conv=>whnf
  intro b3 hb3;conv=>whnf
  refine⟨_,_,St.up hb3 (St.upd_same _ _ _),?_⟩;conv=>whnf
  refine⟨_,_,St.upd_same _ _ _,?_⟩;conv=>whnf
  refine⟨_,_,St.up hb3 (St.upd_same _ _ _),?_⟩;conv=>whnf
  refine⟨_,_,St.upd_same _ _ _,?_⟩;conv=>whnf
  refine(hs _).mono ?_;rintro o T ⟨rfl,rfl⟩;conv=>whnf
  refine⟨_,_,St.up hb3 (St.upd_same _ _ _),?_⟩;conv=>whnf
  exact⟨_,_,⟨rfl,rfl⟩,St.le_upd' (St.le_upd' (St.le_refl _) hb2 _) hb3 _,AV.leS_refl _ _ _⟩
theorem tdiv_abs(n:Int):(n.tdiv 1000000000).natAbs=n.natAbs / 1000000000:=by
 rw[Int.natAbs_tdiv];rfl
theorem Of1_ok(n0:Int)(h0:-9223372036854775808≤n0)(h1:n0≤9223372036854775807)(S:St):Triple P (C G) 133 [.int .i64 n0] S fun o S'=>o=.ret (refI n0)∧S'=S:=by
 refine triple_of_awp (hT G) hm Tryz.func133 rfl (by decide +kernel) rfl (by decide +kernel) (by show 1≤_;decide +kernel) rfl ?_
 refine awp_seq2 fun K hK hQ=>?_
 conv=>whnf
 intro b2 hb2;conv=>whnf
 refine hK _ _ ?_;clear hK hQ K;refine awp_seq2 fun K hK hQ=>?_
 conv=>whnf
 refine hK _ _ ?_;clear hK hQ K;refine awp_seq2 fun K hK hQ=>?_
 conv=>whnf
 refine hK _ _ ?_;clear hK hQ K;have hlim:(limbs n0.natAbs).length≤3:=limbs_len 3 _ (by omega)
 have q2:=St.upd_same S b2 (.obj 189 [.bool false,.nils])
 have hle2:=St.le_upd' (St.le_refl S) hb2 (.obj 189 [.bool false,.nils])
 generalize S.upd b2 (.obj 189 [.bool false,.nils])=S2 at *;refine awp_seq2 fun K hK hQ=>?_
 conv=>whnf
 refine⟨⟨Int×List Nat×Nat,fun x=>[(0,.int .i64 x.1),(2,.ref b2 0),(3,.bool (decide (n0<0))),(4,.sl (.acc x.2.2) 1 (rowsN x.2.1))],
  fun x S1=>AccOk S2 S1 3 1 x.2.2 x.2.1.length∧x.1.natAbs≤9223372036854775808∧x.2.1++limbs x.1.natAbs=limbs n0.natAbs∧x.1≤9223372036854775807,fun x=>x.1.natAbs⟩,
  ⟨(n0,[],0),⟨rfl,rfl,rfl,rfl,trivial⟩,_,St.leW_refl _,AccOk.init _ _ _ _,by omega,rfl,h1⟩,?_⟩
 rintro⟨n,acc,ba⟩ S1 ⟨g1,g2,g3,g4⟩;dsimp only at g1 g2 g3 g4;have hal:acc.length≤3:=by have:=congrArg List.length g3;rw[List.length_append] at this;omega
 conv=>whnf
 refine split_of (fun hne=>?_) (fun hne=>?_)
 ·have hne:n≠0:=by simpa using hne
  conv=>whnf
  refine⟨by decide,?_⟩
  conv=>whnf
  have hm:(n.tmod 1000000000).natAbs=n.natAbs % 1000000000:=by rw[Int.natAbs_tmod];rfl
  have hq:=tdiv_abs n
  have hpos:=limbs_pos (n:=n.natAbs) (by omega)
  have hmd:=limbs_lt n0.natAbs
  have hrest:(acc++[n.natAbs % 1000000000])++limbs (n.natAbs / 1000000000)=limbs n0.natAbs:=by rw[← g3,hpos];simp
  refine split_of (fun hlt=>?_) (fun hlt=>?_)
  ·have hlt:n.tmod 1000000000<0:=of_decide_eq_true hlt
   have hw:IntKind.i64.wrap (0-n.tmod 1000000000)=((n.natAbs % 1000000000:Nat):Int):=by rw[wrap_i64 (by omega) (by omega)];omega
   conv=>whnf
   rw[hw];intro bb hbb;have g1':=g1.other hbb (.tip 3 1 1);conv=>whnf
   refine⟨⟨fun hl=>?_,?_⟩,fun S4 c1 c2 b' c3=>?_⟩
   ·have:0<acc.length:=by cases acc with
     | nil=>exact absurd rfl hl
     | cons _ _=>simp
    rw[rowsN_len];exact g1'.tip this
   ·show((rowsN acc).length+1)*8≤_
    rw[rowsN_len];omega
   have g5:=g1'.push (m:=acc.length+1) (by rw[rowsN_len]) c1 c2 c3 rfl
   rw[rowsN_len];conv=>whnf
   refine⟨by decide,?_⟩
   conv=>whnf
   have hwq:IntKind.i64.wrap (n.tdiv 1000000000)=n.tdiv 1000000000:=wrap_i64 (by omega) (by omega)
   have hqm:(n.tdiv 1000000000).natAbs<n.natAbs:=by rw[hq];exact Nat.div_lt_self (by omega) (by decide)
   exact⟨(n.tdiv 1000000000,acc++[n.natAbs % 1000000000],b'),⟨congrArg _ hwq,rfl,rfl,congrArg (AV.sl (.acc b') 1) (by simp[rowsN]),trivial⟩,⟨_,St.leW_refl _,by rw[show(acc++[n.natAbs % 1000000000]).length=acc.length+1 by simp];exact g5,by dsimp only;omega,by dsimp only;rw[hq];exact hrest,by dsimp only;omega⟩,hqm⟩
  ·have hlt:¬ n.tmod 1000000000<0:=of_decide_eq_false hlt
   have hw:n.tmod 1000000000=((n.natAbs % 1000000000:Nat):Int):=by omega
   conv=>whnf
   rw[hw];intro bb hbb;have g1':=g1.other hbb (.tip 3 1 1);conv=>whnf
   refine⟨⟨fun hl=>?_,?_⟩,fun S4 c1 c2 b' c3=>?_⟩
   ·have:0<acc.length:=by cases acc with
     | nil=>exact absurd rfl hl
     | cons _ _=>simp
    rw[rowsN_len];exact g1'.tip this
   ·show((rowsN acc).length+1)*8≤_
    rw[rowsN_len];omega
   have g5:=g1'.push (m:=acc.length+1) (by rw[rowsN_len]) c1 c2 c3 rfl
   rw[rowsN_len];conv=>whnf
   refine⟨by decide,?_⟩
   conv=>whnf
   have hwq:IntKind.i64.wrap (n.tdiv 1000000000)=n.tdiv 1000000000:=wrap_i64 (by omega) (by omega)
   have hqm:(n.tdiv 1000000000).natAbs<n.natAbs:=by rw[hq];exact Nat.div_lt_self (by omega) (by decide)
   exact⟨(n.tdiv 1000000000,acc++[n.natAbs % 1000000000],b'),⟨congrArg _ hwq,rfl,rfl,congrArg (AV.sl (.acc b') 1) (by simp[rowsN]),trivial⟩,⟨_,St.leW_refl _,by rw[show(acc++[n.natAbs % 1000000000]).length=acc.length+1 by simp];exact g5,by dsimp only;omega,by dsimp only;rw[hq];exact hrest,by dsimp only;omega⟩,hqm⟩
 ·have hne:n=0:=by simpa using hne
  subst hne;conv=>whnf
  refine hK _ _ ?_;clear hK hQ K;have g3:acc=limbs n0.natAbs:=by simpa [limbs_zero] using g3
  subst g3;have q2':=g1.le _ _ q2;conv=>whnf
  refine⟨_,_,q2',?_⟩;conv=>whnf
  refine⟨_,_,St.upd_same _ _ _,?_⟩;conv=>whnf
  exact⟨_,_,⟨rfl,rfl⟩,St.le_upd (St.le_trans hle2 g1.le) hb2 _,⟨rfl,⟨rfl,rfl⟩,rfl⟩⟩
theorem valL_drop(l:List Nat){k:Nat}(hk:k<l.length):valL (l.drop k)=l[k]+1000000000*valL (l.drop (k+1)):=by
 rw[List.drop_eq_getElem_cons hk];rfl
theorem valL_drop_le(l:List Nat):∀ k,valL (l.drop k)≤valL l
 | 0=>by simp
 | k+1=>by
   by_cases hk:k<l.length
   ·have:=valL_drop_le l k
    rw[valL_drop l hk] at this;omega
   ·rw[List.drop_of_length_le (by omega)];simp[valL]
def small1(z:Int):Int×Bool:=if -9223372036854775808≤z∧z≤9223372036854775807 then (z,true) else (0,false)
theorem Small1_ok(z:Int)(S:St):Triple P (C G) 134 [refI z] S fun o S'=>o=.ret (.tu [.int .i64 (small1 z).1,.bool (small1 z).2])∧S'=S:=by
 have hof1:=fun S=>Of1_ok (G:=G) 9223372036854775807 (by omega) (by omega) S
 have hof2:=fun S=>Of1_ok (G:=G) (-9223372036854775808) (by omega) (by omega) S
 have hc1:=fun S=>Cmp1_ok (G:=G) z 9223372036854775807 S
 have hc2:=fun S=>Cmp1_ok (G:=G) z (-9223372036854775808) S
 obtain⟨rA,hA⟩:∃ r,refI 9223372036854775807=.ag [.bool false,.sl .any 1 r]:=⟨_,by unfold refI;rw[decide_eq_false (by omega)]⟩
 obtain⟨rB,hB⟩:∃ r,refI (-9223372036854775808)=.ag [.bool true,.sl .any 1 r]:=⟨_,by unfold refI;rw[decide_eq_true (by omega)]⟩
 rw[hA] at hof1 hc1;rw[hB] at hof2 hc2;have hv:=valL_limbs z.natAbs;unfold refI at hc1 hc2 ⊢;generalize limbs z.natAbs=l at *;have hz1:cmpI z 9223372036854775807 > 0↔9223372036854775807<z:=by unfold cmpI;split<;>(try split)<;>omega
 have hz2:cmpI z (-9223372036854775808)<0↔z < -9223372036854775808:=by unfold cmpI;split<;>(try split)<;>omega
 generalize cmpI z 9223372036854775807=c1 at *;generalize cmpI z (-9223372036854775808)=c2 at *;obtain⟨ng,hng⟩:∃ b:Bool,b=decide (z<0):=⟨_,rfl⟩;rw[← hng] at hc1 hc2 ⊢;refine triple_of_awp (hT G) hm Tryz.func134 rfl (by decide +kernel) rfl (by decide +kernel) (by show 1≤_;decide +kernel) rfl ?_
 refine awp_seq2 fun K hK hQ=>?_
 conv=>whnf
 intro b1 hb1;conv=>whnf
 refine hK _ _ ?_;clear hK hQ K;have q1:=St.upd_same S b1 (.obj 189 [.bool ng,.sl .any 1 (rowsN l)]);have hle1:=St.le_upd' (St.le_refl S) hb1 (.obj 189 [.bool ng,.sl .any 1 (rowsN l)]);generalize S.upd b1 (.obj 189 [.bool ng,.sl .any 1 (rowsN l)])=S1 at *;refine awp_seq2 fun K hK hQ=>?_
 conv=>whnf
 refine⟨[1,2,6,7],(.free 0 (.free 1 (.free 2 (.free 3 (.free 4 (.free 5 (.free 6 (.free 7 (.free 8 (.free 9 .done)))))))))),_,by decide +kernel,?_,fun _ _ h=>⟨_,.inl rfl,h⟩⟩
 conv=>whnf
 refine⟨_,_,q1,?_⟩;conv=>whnf
 refine⟨.ag [.bool false,.sl .any 1 rA],(hof1 _).mono ?_,?_⟩
 ·rintro o S' ⟨rfl,rfl⟩;exact⟨rfl,rfl⟩
 conv=>whnf
 refine⟨.int .i64 c1,(hc1 _).mono ?_,?_⟩
 ·rintro o S' ⟨rfl,rfl⟩;exact⟨rfl,rfl⟩
 conv=>whnf
 by_cases h1:9223372036854775807<z
 ·rw[show decide (c1 > 0)=true from decide_eq_true (hz1.2 h1)];conv=>whnf
  refine hQ _ _ _ (by simp) ?_
  conv=>whnf
  refine⟨_,_,⟨rfl,rfl⟩,hle1,?_⟩;unfold small1;rw[if_neg (by omega)]
  exact AV.leS_refl _ _ _
 ·rw[show decide (c1 > 0)=false from decide_eq_false (fun h=>h1 (hz1.1 h))]
  conv=>whnf
  refine⟨_,_,q1,?_⟩;conv=>whnf
  refine⟨.ag [.bool true,.sl .any 1 rB],(hof2 _).mono ?_,?_⟩
  ·rintro o S' ⟨rfl,rfl⟩;exact⟨rfl,rfl⟩
  conv=>whnf
  refine⟨.int .i64 c2,(hc2 _).mono ?_,?_⟩
  ·rintro o S' ⟨rfl,rfl⟩;exact⟨rfl,rfl⟩
  conv=>whnf
  by_cases h2:z < -9223372036854775808
  ·rw[show decide (c2<0)=true from decide_eq_true (hz2.2 h2)];conv=>whnf
   refine hQ _ _ _ (by simp) ?_
   conv=>whnf
   refine⟨_,_,⟨rfl,rfl⟩,hle1,?_⟩;unfold small1;rw[if_neg (by omega)]
   exact AV.leS_refl _ _ _
  ·rw[show decide (c2<0)=false from decide_eq_false (fun h=>h2 (hz2.1 h))]
   conv=>whnf
   refine hK _ _ ?_;clear hK hQ K;unfold small1;rw[if_pos (by omega)]
   refine awp_seq2 fun K hK hQ=>?_
   conv=>whnf
   refine hK _ _ ?_;clear hK hQ K;refine awp_seq2 fun K hK hQ=>?_
   conv=>whnf
   refine⟨_,_,q1,?_⟩;conv=>whnf
   intro hlen;rw[rowsN_len] at hlen;have hw0:IntKind.i64.wrap (((rowsN l).length:Int)-1)=(l.length:Int)-1:=by rw[rowsN_len,wrap_i64 (by omega) (by omega)]
   conv=>whnf
   refine⟨⟨Nat,fun k=>[(1,.ref b1 0),(4,.int .i64 (-(valL (l.drop k):Int))),(5,.int .i64 ((k:Int)-1))],fun k S'=>S'=S1∧k≤l.length,fun k=>k⟩,
    ⟨l.length,⟨rfl,by rw[List.drop_length];rfl,congrArg _ hw0,trivial⟩,_,St.leW_refl _,rfl,by omega⟩,?_⟩
   rintro(k:Nat) S' ⟨rfl,hk⟩;conv=>whnf
   refine split_of (fun hlt=>?_) (fun hlt=>?_)
   ·have hlt:1≤k:=by have:=of_decide_eq_true hlt;omega
    obtain⟨i,rfl⟩:∃ i,k=i+1:=⟨k-1,by omega⟩
    have hi:i<l.length:=by omega
    have ek:(((i+1:Nat):Int)-1)=(i:Int):=by omega
    have ga:(rowsN l)[(((i+1:Nat):Int)-1).toNat]? = some [.int .i64 ((l[i]:Nat):Int)]:=by rw[ek];simp[rowsN,hi]
    have hvd:=valL_drop l hi
    have hvl:=valL_drop_le l i
    have w1:IntKind.i64.wrap (1000000000*-(valL (l.drop (i+1)):Int))=1000000000*-(valL (l.drop (i+1)):Int):=wrap_i64 (by omega) (by omega)
    have w2:IntKind.i64.wrap (1000000000*-(valL (l.drop (i+1)):Int)-((l[i]:Nat):Int))=-(valL (l.drop i):Int):=by rw[wrap_i64 (by omega) (by omega)];omega
    have w3:IntKind.i64.wrap (((i+1:Nat):Int)-1-1)=(i:Int)-1:=by rw[wrap_i64 (by omega) (by omega)];omega
    conv=>whnf
    refine⟨_,_,q1,?_⟩;conv=>whnf
    refine⟨_,⟨by omega,ga⟩,?_⟩
    conv=>whnf
    have w4:IntKind.i64.wrap (IntKind.i64.wrap (1000000000*-(valL (l.drop (i+1)):Int))-((l[i]:Nat):Int))=-(valL (l.drop i):Int):=by rw[w1];exact w2
    exact⟨i,⟨rfl,congrArg _ w4,congrArg _ w3,trivial⟩,⟨_,St.leW_refl _,rfl,by omega⟩,by show i<i+1;omega⟩
   ·have hlt:k=0:=by have:=of_decide_eq_false hlt;omega
    subst hlt;have hv0:valL (l.drop 0)=z.natAbs:=by rw[List.drop_zero,hv]
    conv=>whnf
    refine hK _ _ ?_;clear hK hQ K
    cases ng with
    | true=>
      have hneg:z<0:=of_decide_eq_true hng.symm
      conv=>whnf
      refine⟨_,_,q1,?_⟩;conv=>whnf
      refine⟨_,_,⟨rfl,rfl⟩,hle1,?_⟩;rw[show -(valL (l.drop 0):Int)=z by omega]
      exact AV.leS_refl _ _ _
    | false=>
      have hneg:¬ z<0:=of_decide_eq_false hng.symm
      conv=>whnf
      refine⟨_,_,q1,?_⟩;conv=>whnf
      refine⟨_,_,⟨rfl,rfl⟩,hle1,?_⟩;rw[show IntKind.i64.wrap (0 - -(valL (l.drop 0):Int))=z by rw[wrap_i64 (by omega) (by omega)];omega]
      exact AV.leS_refl _ _ _
theorem byteAt_cons(c:UInt8)(r:List UInt8):byteAt ⟨(c::r).toArray⟩ 0=(c.toNat:Int):=by simp[byteAt]
theorem byteAt_get(d:List UInt8)(i:Nat)(h:i<d.length):byteAt ⟨d.toArray⟩ i=((d[i].toNat:Nat):Int):=by simp[byteAt,h]
theorem size_arr(d:List UInt8):(⟨d.toArray⟩:ByteArray).size=d.length:=by simp[ByteArray.size]
theorem Parse1_s(l:List UInt8)(hl:l.length≤9000000)(S:St):Triple P (C G) 106 [.str ⟨l.toArray⟩] S fun o S'=>o=.ret (.tu [refI ((parseI l).getD 0),.bool (parseI l).isSome])∧S'=S:=by
 have hsz:=size_arr l
 refine triple_of_awp (hT G) hm Tryz.func106 rfl (by decide +kernel) rfl (by decide +kernel) (by show 1≤_;decide +kernel) rfl ?_
 refine awp_seq2 fun K hK hQ=>?_
 conv=>whnf
 intro b2 hb2;conv=>whnf
 refine hK _ _ ?_;clear hK hQ K;have q2:=St.upd_same S b2 (.obj 189 [.bool false,.nils]);have hle2:=St.le_upd' (St.le_refl S) hb2 (.obj 189 [.bool false,.nils]);generalize S.upd b2 (.obj 189 [.bool false,.nils])=S2 at *
 cases l with
 | nil=>
   have hnone:parseI []=none:=by decide
   refine awp_seq2 fun K hK hQ=>?_
   conv=>whnf
   refine hK _ _ ?_;clear hK hQ K;refine awp_seq2 fun K hK hQ=>?_
   conv=>whnf
   refine hK _ _ ?_;clear hK hQ K;refine awp_seq2 fun K hK hQ=>?_
   conv=>whnf
   refine hK _ _ ?_;clear hK hQ K;refine awp_seq2 fun K hK hQ=>?_
   conv=>whnf
   refine⟨_,_,q2,?_⟩;conv=>whnf
   refine hQ _ _ _ (by simp) ?_
   conv=>whnf
   refine⟨_,_,St.upd_same _ _ _,?_⟩;conv=>whnf
   refine⟨_,_,⟨rfl,rfl⟩,St.le_upd hle2 hb2 _,?_⟩;rw[hnone];exact⟨⟨rfl,rfl,rfl⟩,rfl,rfl⟩
 | cons c r=>
   have hby:byteAt ⟨(c::r).toArray⟩ (0:Int).toNat=(c.toNat:Int):=byteAt_cons c r
   have hsl:((⟨(c::r).toArray⟩:ByteArray).size:Int) > 0:=by rw[hsz];simp
   by_cases hc:c=45
   ·subst hc;have hex:(⟨((45:UInt8)::r).toArray⟩:ByteArray).extract (1:Int).toNat ((⟨((45:UInt8)::r).toArray⟩:ByteArray).size:Int).toNat=⟨r.toArray⟩:=by rw[extract_list,hsz];simp
    have hpre:Lib.hasPrefix ((45:UInt8)::r) [45]=true:=by simp[Lib.hasPrefix,List.isPrefixOf]
    have htr:Lib.trimPrefix ((45:UInt8)::r) [45]=r:=by unfold Lib.trimPrefix;rw[if_pos hpre];rfl
    have hrl:r.length≤9000000:=by simp at hl;omega
    refine awp_seq2 fun K hK hQ=>?_
    conv=>whnf
    rw[show decide (((⟨((45:UInt8)::r).toArray⟩:ByteArray).size:Int) > 0)=true from decide_eq_true hsl];conv=>whnf
    refine⟨⟨by decide,hsl⟩,?_⟩
    conv=>whnf
    rw[show(byteAt ⟨((45:UInt8)::r).toArray⟩ (0:Int).toNat == 45)=true from by rw[hby];rfl]
    refine hK _ _ ?_;clear hK hQ K;refine awp_seq2 fun K hK hQ=>?_
    conv=>whnf
    refine hK _ _ ?_;clear hK hQ K;refine awp_seq2 fun K hK hQ=>?_
    conv=>whnf
    refine⟨⟨by decide,by omega,by omega⟩,?_⟩
    conv=>whnf
    rw[hex];refine hK _ _ ?_;clear hK hQ K
    cases r with
    | nil=>
      have hnone:parseI [45]=none:=by decide
      refine awp_seq2 fun K hK hQ=>?_
      conv=>whnf
      refine⟨_,_,q2,?_⟩;conv=>whnf
      refine hQ _ _ _ (by simp) ?_
      conv=>whnf
      refine⟨_,_,St.upd_same _ _ _,?_⟩;conv=>whnf
      refine⟨_,_,⟨rfl,rfl⟩,St.le_upd hle2 hb2 _,?_⟩;rw[hnone];exact⟨⟨rfl,rfl,rfl⟩,rfl,rfl⟩
    | cons e r'=>
      have hsr:=size_arr (e::r')
      have hby2:byteAt ⟨(e::r').toArray⟩ (0:Int).toNat=(e.toNat:Int):=byteAt_cons e r'
      by_cases he:e=48
      ·subst he;have hnone:parseI (45::48::r')=none:=by
        unfold parseI;rw[htr];exact if_pos (.inr (.inl ⟨rfl,by simp⟩))
       refine awp_seq2 fun K hK hQ=>?_
       conv=>whnf
       rw[show(((⟨((48:UInt8)::r').toArray⟩:ByteArray).size:Int) == 0)=false from by rw[hsr];exact beq_false_of_ne (by simp<;>omega)]
       conv=>whnf
       refine⟨⟨by decide,by rw[hsr];simp<;>omega⟩,?_⟩
       conv=>whnf
       rw[show(byteAt ⟨((48:UInt8)::r').toArray⟩ (0:Int).toNat == 48)=true from by rw[hby2];rfl]
       conv=>whnf
       by_cases hr':decide (((⟨((48:UInt8)::r').toArray⟩:ByteArray).size:Int) > 1)=true
       ·rw[hr'];conv=>whnf
        refine⟨_,_,q2,?_⟩;conv=>whnf
        refine hQ _ _ _ (by simp) ?_
        conv=>whnf
        refine⟨_,_,St.upd_same _ _ _,?_⟩;conv=>whnf
        refine⟨_,_,⟨rfl,rfl⟩,St.le_upd hle2 hb2 _,?_⟩;rw[hnone];exact⟨⟨rfl,rfl,rfl⟩,rfl,rfl⟩
       ·rw[show decide (((⟨((48:UInt8)::r').toArray⟩:ByteArray).size:Int) > 1)=false from by simpa using hr']
        conv=>whnf
        refine⟨_,_,q2,?_⟩;conv=>whnf
        refine hQ _ _ _ (by simp) ?_
        conv=>whnf
        refine⟨_,_,St.upd_same _ _ _,?_⟩;conv=>whnf
        refine⟨_,_,⟨rfl,rfl⟩,St.le_upd hle2 hb2 _,?_⟩;rw[hnone];exact⟨⟨rfl,rfl,rfl⟩,rfl,rfl⟩
      ·refine awp_seq2 fun K hK hQ=>?_
       conv=>whnf
       rw[show(((⟨(e::r').toArray⟩:ByteArray).size:Int) == 0)=false from by rw[hsr];exact beq_false_of_ne (by simp<;>omega)]
       conv=>whnf
       refine⟨⟨by decide,by rw[hsr];simp<;>omega⟩,?_⟩
       conv=>whnf
       have hbe:(byteAt ⟨(e::r').toArray⟩ (0:Int).toNat == 48)=false:=by
        rw[hby2];refine beq_false_of_ne fun h=>he (UInt8.toNat_inj.1 ?_)
        have h48:(48:UInt8).toNat=48:=rfl
        omega
       rw[hbe];conv=>whnf
       refine hK _ _ ?_;clear hK hQ K;have hP:parseI (45::e::r')=if (e::r').all digitB=true then some (-(decV (e::r'):Int)) else none:=by
        unfold parseI;rw[htr,hpre];dsimp only
        by_cases ha:(e::r').all digitB=true
        ·rw[if_pos ha,if_neg (by rintro(h | h | h);cases h;exact he (by simpa using h.1);rw[ha] at h;cases h)]
         rfl
        ·rw[if_neg ha,if_pos (.inr (.inr (by simpa using ha)))]
       generalize e::r'=d at *;refine awp_seq2 fun K hK hQ=>?_
       conv=>whnf
       refine⟨⟨Nat,fun i=>[(2,.ref b2 0),(4,.bool true),(5,.str ⟨d.toArray⟩),(6,.int .i64 (i:Int))],fun i S'=>S'=S2∧i≤d.length∧∀ j (h:j<d.length),j<i→digitB d[j]=true,fun i=>d.length-i⟩,
        ⟨0,⟨rfl,rfl,rfl,rfl,trivial⟩,_,St.leW_refl _,rfl,by omega,fun j h hj=>by omega⟩,?_⟩
       rintro(i:Nat) S' ⟨rfl,hi,hdg⟩;conv=>whnf
       refine split_of (fun hlt=>?_) (fun hlt=>?_)
       ·have hlt:i<d.length:=by have:=of_decide_eq_true hlt;rw[size_arr] at this;omega
        have hbi:byteAt ⟨d.toArray⟩ (i:Int).toNat=((d[i].toNat:Nat):Int):=byteAt_get d i hlt
        have hnd:digitB d[i]=false→d.all digitB=false:=fun h=>by
         cases ha:d.all digitB with
         | false=>rfl
         | true=>rw[List.all_eq_true.1 ha _ (List.getElem_mem hlt)] at h;cases h
        have hdi:digitB d[i]=(decide (48≤d[i].toNat) && decide (d[i].toNat≤57)):=rfl
        have hnx:digitB d[i]=true→∀ j (h:j<d.length),j<i+1→digitB d[j]=true:=fun h j hj hji=>by
         by_cases e:j=i
         ·subst e;exact h
         ·exact hdg j hj (by omega)
        have w1:IntKind.i64.wrap ((i:Int)+1)=((i+1:Nat):Int):=wrap_nat (by omega)
        generalize hgx:d[i]=x at *;conv=>whnf
        refine⟨⟨by omega,by rw[size_arr];omega⟩,?_⟩
        conv=>whnf
        rw[hbi]
        by_cases hx1:x.toNat<48
        ·have hnone:=hP.trans (if_neg (by rw[hnd (by rw[hdi,decide_eq_false (by omega)];rfl)];decide))
         rw[show decide (((x.toNat:Nat):Int)<48)=true from decide_eq_true (by omega)]
         conv=>whnf
         refine⟨_,_,q2,?_⟩;conv=>whnf
         refine hQ _ _ _ (by simp) ?_
         conv=>whnf
         refine⟨_,_,St.upd_same _ _ _,?_⟩;conv=>whnf
         refine⟨_,_,⟨rfl,rfl⟩,St.le_upd hle2 hb2 _,?_⟩;rw[hnone];exact⟨⟨rfl,rfl,rfl⟩,rfl,rfl⟩
        ·rw[show decide (((x.toNat:Nat):Int)<48)=false from decide_eq_false (by omega)]
         conv=>whnf
         refine⟨⟨by omega,by rw[size_arr];omega⟩,?_⟩
         conv=>whnf
         rw[hbi]
         by_cases hx2:57<x.toNat
         ·have hnone:=hP.trans (if_neg (by rw[hnd (by rw[hdi,decide_eq_false (show ¬ x.toNat≤57 by omega),Bool.and_false])];decide))
          rw[show decide (((x.toNat:Nat):Int) > 57)=true from decide_eq_true (by omega)]
          conv=>whnf
          refine⟨_,_,q2,?_⟩;conv=>whnf
          refine hQ _ _ _ (by simp) ?_
          conv=>whnf
          refine⟨_,_,St.upd_same _ _ _,?_⟩;conv=>whnf
          refine⟨_,_,⟨rfl,rfl⟩,St.le_upd hle2 hb2 _,?_⟩;rw[hnone];exact⟨⟨rfl,rfl,rfl⟩,rfl,rfl⟩
         ·rw[show decide (((x.toNat:Nat):Int) > 57)=false from decide_eq_false (by omega)]
          conv=>whnf
          exact⟨i+1,⟨rfl,rfl,rfl,congrArg _ w1,trivial⟩,⟨_,St.leW_refl _,rfl,hlt,hnx (by rw[hdi,decide_eq_true (by omega),decide_eq_true (by omega)];rfl)⟩,by show d.length-(i+1)<d.length-i;omega⟩
       have hlt:i=d.length:=by have:=of_decide_eq_false hlt;rw[size_arr] at this;omega
       subst hlt;have hall:d.all digitB=true:=List.all_eq_true.2 fun c hc=>by
        obtain⟨j,hj,rfl⟩:=List.getElem_of_mem hc;exact hdg j hj hj
       rw[if_pos hall] at hP;have hsome:∀ T:St,St.le S T→True:=fun _ _=>trivial
       conv=>whnf
       refine hK _ _ ?_;clear hK hQ K;refine awp_seq2 fun K hK hQ=>?_
       conv=>whnf
       refine hK _ _ ?_;clear hK hQ K;refine awp_seq2 fun K hK hQ=>?_
       conv=>whnf
       refine⟨⟨Nat×List Nat×Nat,fun x=>[(2,.ref b2 0),(4,.bool true),(5,.str ⟨d.toArray⟩),(7,.sl (.acc x.2.2) 1 (rowsN x.2.1)),(8,.int .i64 ((d.length:Int)-9*(x.1:Int)))],
        fun x S1=>AccOk S' S1 3 1 x.2.2 x.2.1.length∧x.2.1.length=x.1∧9*x.1≤d.length+8∧decV d=decV (d.take (d.length-9*x.1))*1000000000 ^ x.1+valL x.2.1∧∀ y∈x.2.1,y<1000000000,fun x=>d.length+9-9*x.1⟩,
        ⟨(0,[],0),⟨rfl,rfl,rfl,rfl,congrArg (AV.int .i64) (by rw[size_arr];simp),trivial⟩,_,St.leW_refl _,AccOk.init _ _ _ _,rfl,by omega,by simp[valL],by simp⟩,?_⟩
       rintro⟨k,acc,ba⟩ S1 ⟨g1,g2,g3,g4,g5⟩;dsimp only at g1 g2 g3 g4 g5;conv=>whnf
       refine split_of (fun hgt=>?_) (fun hgt=>?_)
       ·have hgt:9*k<d.length:=by have:=of_decide_eq_true hgt;dsimp only at this;omega
        have w9:IntKind.i64.wrap ((d.length:Int)-9*(k:Int)-9)=(d.length:Int)-9*((k+1:Nat):Int):=by rw[wrap_i64 (by omega) (by omega)];omega
        have hmax:(if IntKind.i64.wrap ((d.length:Int)-9*(k:Int)-9) > 0 then IntKind.i64.wrap ((d.length:Int)-9*(k:Int)-9) else 0)=((d.length-9*k-9:Nat):Int):=by
         rw[w9]
         split<;>omega
        have hen:(d.length:Int)-9*(k:Int)=((d.length-9*k:Nat):Int):=by omega
        have hstep:=chunk_step g2 g4 hgt
        generalize hst:d.length-9*k-9=st at *;generalize hee:d.length-9*k=en at *;have hsub:∀ i,i≤en→((d.take i).drop st).all digitB=true:=fun i hi=>List.all_eq_true.2 fun c hc=>List.all_eq_true.1 hall c (List.mem_of_mem_take (List.mem_of_mem_drop hc))
        conv=>whnf
        refine⟨⟨Nat,fun i=>[(2,.ref b2 0),(4,.bool true),(5,.str ⟨d.toArray⟩),(7,.sl (.acc ba) 1 (rowsN acc)),(8,.int .i64 (en:Int)),(9,.int .i64 (decV ((d.take i).drop st):Int)),(10,.int .i64 (i:Int))],
         fun i S2=>S2=S1∧st≤i∧i≤en,fun i=>en-i⟩,
         ⟨st,⟨rfl,rfl,rfl,rfl,congrArg _ hen,by rw[List.drop_of_length_le (by rw[List.length_take];omega)];rfl,congrArg _ hmax,trivial⟩,_,St.leW_refl _,rfl,by omega,by omega⟩,?_⟩
        rintro(i:Nat) S3 ⟨rfl,hi1,hi2⟩;conv=>whnf
        refine split_of (fun hil=>?_) (fun hil=>?_)
        ·have hil:i<en:=by have:=of_decide_eq_true hil;omega
         have hid:i<d.length:=by omega
         have hbi:byteAt ⟨d.toArray⟩ (i:Int).toNat=((d[i].toNat:Nat):Int):=byteAt_get d i hid
         have hdx:digitB d[i]=true:=List.all_eq_true.1 hall _ (List.getElem_mem hid)
         unfold digitB at hdx;simp only[Bool.and_eq_true,decide_eq_true_eq] at hdx;have hsn:(d.take (i+1)).drop st=(d.take i).drop st++[d[i]]:=by
          rw[List.take_succ_eq_append_getElem hid,List.drop_append_of_le_length (by rw[List.length_take];omega)]
         have hv:=decV_lt _ (hsub i (by omega))
         rw[List.length_drop,List.length_take] at hv;have hv8:decV ((d.take i).drop st)<100000000:=Nat.lt_of_lt_of_le hv (by
          have:=Nat.pow_le_pow_right (n:=10) (by decide) (show min i d.length-st≤8 by omega)
          omega)
         have hdv:decV ((d.take (i+1)).drop st)=10*decV ((d.take i).drop st)+(d[i].toNat-48):=by rw[hsn,decV_snoc]
         have w1:IntKind.i64.wrap ((i:Int)+1)=((i+1:Nat):Int):=wrap_nat (by omega)
         generalize d[i]=x at *;have hu:IntKind.u8.wrap (((x.toNat:Nat):Int)-48)=((x.toNat-48:Nat):Int):=by
          unfold IntKind.wrap
          simp[IntKind.bits,IntKind.signed]
          omega
         have hwv:IntKind.i64.wrap (IntKind.i64.wrap (10*(decV ((d.take i).drop st):Int))+IntKind.i64.wrap (IntKind.u8.wrap (byteAt ⟨d.toArray⟩ (i:Int).toNat-48)))=(decV ((d.take (i+1)).drop st):Int):=by
          rw[hbi,hu,wrap_i64 (n:=10*(decV ((d.take i).drop st):Int)) (by omega) (by omega),wrap_i64 (n:=((x.toNat-48:Nat):Int)) (by omega) (by omega),wrap_i64 (by omega) (by omega),hdv]
          omega
         conv=>whnf
         refine⟨⟨by omega,by rw[size_arr];omega⟩,?_⟩
         conv=>whnf
         exact⟨i+1,⟨rfl,rfl,rfl,rfl,rfl,congrArg _ hwv,congrArg _ w1,trivial⟩,⟨_,St.leW_refl _,rfl,by omega,by omega⟩,by show en-(i+1)<en-i;omega⟩
        ·have hil:i=en:=by have:=of_decide_eq_false hil;omega
         subst hil;conv=>whnf
         intro bb hbb;have g1':=g1.other hbb (.tip 3 1 1);conv=>whnf
         refine⟨⟨fun hl=>?_,?_⟩,fun S4 c1 c2 b' c3=>?_⟩
         ·have:0<acc.length:=by cases acc with
           | nil=>exact absurd rfl hl
           | cons _ _=>simp
          rw[rowsN_len];exact g1'.tip this
         ·show((rowsN acc).length+1)*8≤_
          rw[rowsN_len];omega
         have g5':=g1'.push (m:=acc.length+1) (by rw[rowsN_len]) c1 c2 c3 rfl
         rw[rowsN_len];conv=>whnf
         have w10:IntKind.i64.wrap ((i:Int)-9)=(d.length:Int)-9*((k+1:Nat):Int):=by rw[← hen];exact w9
         have hlt9:decV ((d.take i).drop st)<1000000000:=by
          have hv:=decV_lt _ (hsub i (by omega))
          rw[List.length_drop,List.length_take] at hv;have:=Nat.pow_le_pow_right (n:=10) (by decide) (show min i d.length-st≤9 by omega)
          omega
         refine⟨(k+1,acc++[decV ((d.take i).drop st)],b'),⟨rfl,rfl,rfl,congrArg (AV.sl (.acc b') 1) (by simp[rowsN]),congrArg _ w10,trivial⟩,⟨_,St.leW_refl _,by rw[show(acc++[decV ((d.take i).drop st)]).length=acc.length+1 by simp];exact g5',by simp[g2],by dsimp only;omega,by dsimp only;rw[show d.length-9*(k+1)=st by omega];exact hstep,fun y hy=>?_⟩,by show d.length+9-9*(k+1)<d.length+9-9*k;omega⟩
         rcases List.mem_append.1 hy with hy | hy
         ·exact g5 y hy
         ·rw[List.mem_singleton.1 hy];exact hlt9
       ·have hgt:d.length≤9*k:=by have:=of_decide_eq_false hgt;dsimp only at this;omega
        have g4:decV d=valL acc:=by rw[g4,show d.length-9*k=0 by omega];simp[decV]
        have hmd:=fun S=>made1_ok (G:=G) true acc g5 S
        conv=>whnf
        refine hK _ _ ?_;clear hK hQ K;conv=>whnf
        refine Triple.use (hmd _) (by exact⟨rfl,⟨rfl,rfl⟩,trivial⟩) ?_
        rintro o T ⟨rfl,rfl⟩;have q3:=g1.le _ _ q2;conv=>whnf
        refine⟨_,_,q3,?_⟩;conv=>whnf
        refine⟨_,_,St.upd_same _ _ _,?_⟩;conv=>whnf
        refine⟨_,_,⟨rfl,rfl⟩,St.le_upd (St.le_trans hle2 g1.le) hb2 _,?_⟩;rw[hP,g4];exact AV.leS_refl _ _ _
   ·have hpre:Lib.hasPrefix (c::r) [45]=false:=by simp[Lib.hasPrefix,List.isPrefixOf];exact fun h=>hc h.symm
    have htr:Lib.trimPrefix (c::r) [45]=c::r:=trimPrefix_no hpre
    refine awp_seq2 fun K hK hQ=>?_
    conv=>whnf
    rw[show decide (((⟨(c::r).toArray⟩:ByteArray).size:Int) > 0)=true from decide_eq_true hsl];conv=>whnf
    refine⟨⟨by decide,hsl⟩,?_⟩
    conv=>whnf
    have hbc:(byteAt ⟨(c::r).toArray⟩ (0:Int).toNat == 45)=false:=by
     rw[hby];refine beq_false_of_ne fun h=>hc (UInt8.toNat_inj.1 ?_)
     have h45:(45:UInt8).toNat=45:=rfl
     omega
    rw[hbc];refine hK _ _ ?_;clear hK hQ K;refine awp_seq2 fun K hK hQ=>?_
    conv=>whnf
    refine hK _ _ ?_;clear hK hQ K;refine awp_seq2 fun K hK hQ=>?_
    conv=>whnf
    refine hK _ _ ?_;clear hK hQ K
    by_cases he:c=48
    ·subst he
     cases r with
     | nil=>
       have hP:parseI [48]=if [(48:UInt8)].all digitB=true then some (decV [48]:Int) else none:=by decide
       refine awp_seq2 fun K hK hQ=>?_
       conv=>whnf
       refine⟨⟨by decide,by decide⟩,?_⟩
       conv=>whnf
       refine hK _ _ ?_;clear hK hQ K;generalize [(48:UInt8)]=d at *;refine awp_seq2 fun K hK hQ=>?_
       conv=>whnf
       refine⟨⟨Nat,fun i=>[(2,.ref b2 0),(4,.bool false),(5,.str ⟨d.toArray⟩),(6,.int .i64 (i:Int))],fun i S'=>S'=S2∧i≤d.length∧∀ j (h:j<d.length),j<i→digitB d[j]=true,fun i=>d.length-i⟩,
        ⟨0,⟨rfl,rfl,rfl,rfl,trivial⟩,_,St.leW_refl _,rfl,by omega,fun j h hj=>by omega⟩,?_⟩
       rintro(i:Nat) S' ⟨rfl,hi,hdg⟩;conv=>whnf
       refine split_of (fun hlt=>?_) (fun hlt=>?_)
       ·have hlt:i<d.length:=by have:=of_decide_eq_true hlt;rw[size_arr] at this;omega
        have hbi:byteAt ⟨d.toArray⟩ (i:Int).toNat=((d[i].toNat:Nat):Int):=byteAt_get d i hlt
        have hnd:digitB d[i]=false→d.all digitB=false:=fun h=>by
         cases ha:d.all digitB with
         | false=>rfl
         | true=>rw[List.all_eq_true.1 ha _ (List.getElem_mem hlt)] at h;cases h
        have hdi:digitB d[i]=(decide (48≤d[i].toNat) && decide (d[i].toNat≤57)):=rfl
        have hnx:digitB d[i]=true→∀ j (h:j<d.length),j<i+1→digitB d[j]=true:=fun h j hj hji=>by
         by_cases e:j=i
         ·subst e;exact h
         ·exact hdg j hj (by omega)
        have w1:IntKind.i64.wrap ((i:Int)+1)=((i+1:Nat):Int):=wrap_nat (by omega)
        generalize hgx:d[i]=x at *;conv=>whnf
        refine⟨⟨by omega,by rw[size_arr];omega⟩,?_⟩
        conv=>whnf
        rw[hbi]
        by_cases hx1:x.toNat<48
        ·have hnone:=hP.trans (if_neg (by rw[hnd (by rw[hdi,decide_eq_false (by omega)];rfl)];decide))
         rw[show decide (((x.toNat:Nat):Int)<48)=true from decide_eq_true (by omega)]
         conv=>whnf
         refine⟨_,_,q2,?_⟩;conv=>whnf
         refine hQ _ _ _ (by simp) ?_
         conv=>whnf
         refine⟨_,_,St.upd_same _ _ _,?_⟩;conv=>whnf
         refine⟨_,_,⟨rfl,rfl⟩,St.le_upd hle2 hb2 _,?_⟩;rw[hnone];exact⟨⟨rfl,rfl,rfl⟩,rfl,rfl⟩
        ·rw[show decide (((x.toNat:Nat):Int)<48)=false from decide_eq_false (by omega)]
         conv=>whnf
         refine⟨⟨by omega,by rw[size_arr];omega⟩,?_⟩
         conv=>whnf
         rw[hbi]
         by_cases hx2:57<x.toNat
         ·have hnone:=hP.trans (if_neg (by rw[hnd (by rw[hdi,decide_eq_false (show ¬ x.toNat≤57 by omega),Bool.and_false])];decide))
          rw[show decide (((x.toNat:Nat):Int) > 57)=true from decide_eq_true (by omega)]
          conv=>whnf
          refine⟨_,_,q2,?_⟩;conv=>whnf
          refine hQ _ _ _ (by simp) ?_
          conv=>whnf
          refine⟨_,_,St.upd_same _ _ _,?_⟩;conv=>whnf
          refine⟨_,_,⟨rfl,rfl⟩,St.le_upd hle2 hb2 _,?_⟩;rw[hnone];exact⟨⟨rfl,rfl,rfl⟩,rfl,rfl⟩
         ·rw[show decide (((x.toNat:Nat):Int) > 57)=false from decide_eq_false (by omega)]
          conv=>whnf
          exact⟨i+1,⟨rfl,rfl,rfl,congrArg _ w1,trivial⟩,⟨_,St.leW_refl _,rfl,hlt,hnx (by rw[hdi,decide_eq_true (by omega),decide_eq_true (by omega)];rfl)⟩,by show d.length-(i+1)<d.length-i;omega⟩
       have hlt:i=d.length:=by have:=of_decide_eq_false hlt;rw[size_arr] at this;omega
       subst hlt;have hall:d.all digitB=true:=List.all_eq_true.2 fun c hc=>by
        obtain⟨j,hj,rfl⟩:=List.getElem_of_mem hc;exact hdg j hj hj
       rw[if_pos hall] at hP;have hsome:∀ T:St,St.le S T→True:=fun _ _=>trivial
       conv=>whnf
       refine hK _ _ ?_;clear hK hQ K;refine awp_seq2 fun K hK hQ=>?_
       conv=>whnf
       refine hK _ _ ?_;clear hK hQ K;refine awp_seq2 fun K hK hQ=>?_
       conv=>whnf
       refine⟨⟨Nat×List Nat×Nat,fun x=>[(2,.ref b2 0),(4,.bool false),(5,.str ⟨d.toArray⟩),(7,.sl (.acc x.2.2) 1 (rowsN x.2.1)),(8,.int .i64 ((d.length:Int)-9*(x.1:Int)))],
        fun x S1=>AccOk S' S1 3 1 x.2.2 x.2.1.length∧x.2.1.length=x.1∧9*x.1≤d.length+8∧decV d=decV (d.take (d.length-9*x.1))*1000000000 ^ x.1+valL x.2.1∧∀ y∈x.2.1,y<1000000000,fun x=>d.length+9-9*x.1⟩,
        ⟨(0,[],0),⟨rfl,rfl,rfl,rfl,congrArg (AV.int .i64) (by rw[size_arr];simp),trivial⟩,_,St.leW_refl _,AccOk.init _ _ _ _,rfl,by omega,by simp[valL],by simp⟩,?_⟩
       rintro⟨k,acc,ba⟩ S1 ⟨g1,g2,g3,g4,g5⟩;dsimp only at g1 g2 g3 g4 g5;conv=>whnf
       refine split_of (fun hgt=>?_) (fun hgt=>?_)
       ·have hgt:9*k<d.length:=by have:=of_decide_eq_true hgt;dsimp only at this;omega
        have w9:IntKind.i64.wrap ((d.length:Int)-9*(k:Int)-9)=(d.length:Int)-9*((k+1:Nat):Int):=by rw[wrap_i64 (by omega) (by omega)];omega
        have hmax:(if IntKind.i64.wrap ((d.length:Int)-9*(k:Int)-9) > 0 then IntKind.i64.wrap ((d.length:Int)-9*(k:Int)-9) else 0)=((d.length-9*k-9:Nat):Int):=by
         rw[w9]
         split<;>omega
        have hen:(d.length:Int)-9*(k:Int)=((d.length-9*k:Nat):Int):=by omega
        have hstep:=chunk_step g2 g4 hgt
        generalize hst:d.length-9*k-9=st at *;generalize hee:d.length-9*k=en at *;have hsub:∀ i,i≤en→((d.take i).drop st).all digitB=true:=fun i hi=>List.all_eq_true.2 fun c hc=>List.all_eq_true.1 hall c (List.mem_of_mem_take (List.mem_of_mem_drop hc))
        conv=>whnf
        refine⟨⟨Nat,fun i=>[(2,.ref b2 0),(4,.bool false),(5,.str ⟨d.toArray⟩),(7,.sl (.acc ba) 1 (rowsN acc)),(8,.int .i64 (en:Int)),(9,.int .i64 (decV ((d.take i).drop st):Int)),(10,.int .i64 (i:Int))],
         fun i S2=>S2=S1∧st≤i∧i≤en,fun i=>en-i⟩,
         ⟨st,⟨rfl,rfl,rfl,rfl,congrArg _ hen,by rw[List.drop_of_length_le (by rw[List.length_take];omega)];rfl,congrArg _ hmax,trivial⟩,_,St.leW_refl _,rfl,by omega,by omega⟩,?_⟩
        rintro(i:Nat) S3 ⟨rfl,hi1,hi2⟩;conv=>whnf
        refine split_of (fun hil=>?_) (fun hil=>?_)
        ·have hil:i<en:=by have:=of_decide_eq_true hil;omega
         have hid:i<d.length:=by omega
         have hbi:byteAt ⟨d.toArray⟩ (i:Int).toNat=((d[i].toNat:Nat):Int):=byteAt_get d i hid
         have hdx:digitB d[i]=true:=List.all_eq_true.1 hall _ (List.getElem_mem hid)
         unfold digitB at hdx;simp only[Bool.and_eq_true,decide_eq_true_eq] at hdx;have hsn:(d.take (i+1)).drop st=(d.take i).drop st++[d[i]]:=by
          rw[List.take_succ_eq_append_getElem hid,List.drop_append_of_le_length (by rw[List.length_take];omega)]
         have hv:=decV_lt _ (hsub i (by omega))
         rw[List.length_drop,List.length_take] at hv;have hv8:decV ((d.take i).drop st)<100000000:=Nat.lt_of_lt_of_le hv (by
          have:=Nat.pow_le_pow_right (n:=10) (by decide) (show min i d.length-st≤8 by omega)
          omega)
         have hdv:decV ((d.take (i+1)).drop st)=10*decV ((d.take i).drop st)+(d[i].toNat-48):=by rw[hsn,decV_snoc]
         have w1:IntKind.i64.wrap ((i:Int)+1)=((i+1:Nat):Int):=wrap_nat (by omega)
         generalize d[i]=x at *;have hu:IntKind.u8.wrap (((x.toNat:Nat):Int)-48)=((x.toNat-48:Nat):Int):=by
          unfold IntKind.wrap
          simp[IntKind.bits,IntKind.signed]
          omega
         have hwv:IntKind.i64.wrap (IntKind.i64.wrap (10*(decV ((d.take i).drop st):Int))+IntKind.i64.wrap (IntKind.u8.wrap (byteAt ⟨d.toArray⟩ (i:Int).toNat-48)))=(decV ((d.take (i+1)).drop st):Int):=by
          rw[hbi,hu,wrap_i64 (n:=10*(decV ((d.take i).drop st):Int)) (by omega) (by omega),wrap_i64 (n:=((x.toNat-48:Nat):Int)) (by omega) (by omega),wrap_i64 (by omega) (by omega),hdv]
          omega
         conv=>whnf
         refine⟨⟨by omega,by rw[size_arr];omega⟩,?_⟩
         conv=>whnf
         exact⟨i+1,⟨rfl,rfl,rfl,rfl,rfl,congrArg _ hwv,congrArg _ w1,trivial⟩,⟨_,St.leW_refl _,rfl,by omega,by omega⟩,by show en-(i+1)<en-i;omega⟩
        ·have hil:i=en:=by have:=of_decide_eq_false hil;omega
         subst hil;conv=>whnf
         intro bb hbb;have g1':=g1.other hbb (.tip 3 1 1);conv=>whnf
         refine⟨⟨fun hl=>?_,?_⟩,fun S4 c1 c2 b' c3=>?_⟩
         ·have:0<acc.length:=by cases acc with
           | nil=>exact absurd rfl hl
           | cons _ _=>simp
          rw[rowsN_len];exact g1'.tip this
         ·show((rowsN acc).length+1)*8≤_
          rw[rowsN_len];omega
         have g5':=g1'.push (m:=acc.length+1) (by rw[rowsN_len]) c1 c2 c3 rfl
         rw[rowsN_len];conv=>whnf
         have w10:IntKind.i64.wrap ((i:Int)-9)=(d.length:Int)-9*((k+1:Nat):Int):=by rw[← hen];exact w9
         have hlt9:decV ((d.take i).drop st)<1000000000:=by
          have hv:=decV_lt _ (hsub i (by omega))
          rw[List.length_drop,List.length_take] at hv;have:=Nat.pow_le_pow_right (n:=10) (by decide) (show min i d.length-st≤9 by omega)
          omega
         refine⟨(k+1,acc++[decV ((d.take i).drop st)],b'),⟨rfl,rfl,rfl,congrArg (AV.sl (.acc b') 1) (by simp[rowsN]),congrArg _ w10,trivial⟩,⟨_,St.leW_refl _,by rw[show(acc++[decV ((d.take i).drop st)]).length=acc.length+1 by simp];exact g5',by simp[g2],by dsimp only;omega,by dsimp only;rw[show d.length-9*(k+1)=st by omega];exact hstep,fun y hy=>?_⟩,by show d.length+9-9*(k+1)<d.length+9-9*k;omega⟩
         rcases List.mem_append.1 hy with hy | hy
         ·exact g5 y hy
         ·rw[List.mem_singleton.1 hy];exact hlt9
       ·have hgt:d.length≤9*k:=by have:=of_decide_eq_false hgt;dsimp only at this;omega
        have g4:decV d=valL acc:=by rw[g4,show d.length-9*k=0 by omega];simp[decV]
        have hmd:=fun S=>made1_ok (G:=G) false acc g5 S
        conv=>whnf
        refine hK _ _ ?_;clear hK hQ K;conv=>whnf
        refine Triple.use (hmd _) (by exact⟨rfl,⟨rfl,rfl⟩,trivial⟩) ?_
        rintro o T ⟨rfl,rfl⟩;have q3:=g1.le _ _ q2;conv=>whnf
        refine⟨_,_,q3,?_⟩;conv=>whnf
        refine⟨_,_,St.upd_same _ _ _,?_⟩;conv=>whnf
        refine⟨_,_,⟨rfl,rfl⟩,St.le_upd (St.le_trans hle2 g1.le) hb2 _,?_⟩;rw[hP,g4];exact AV.leS_refl _ _ _
     | cons e r'=>
       have hnone:parseI (48::e::r')=none:=by
        unfold parseI;rw[htr];exact if_pos (.inr (.inl ⟨rfl,by simp⟩))
       refine awp_seq2 fun K hK hQ=>?_
       conv=>whnf
       rw[show(((⟨((48:UInt8)::e::r').toArray⟩:ByteArray).size:Int) == 0)=false from by rw[hsz];exact beq_false_of_ne (by simp<;>omega)]
       conv=>whnf
       refine⟨⟨by decide,hsl⟩,?_⟩
       conv=>whnf
       rw[show(byteAt ⟨((48:UInt8)::e::r').toArray⟩ (0:Int).toNat == 48)=true from by rw[hby];rfl]
       conv=>whnf
       rw[show decide (((⟨((48:UInt8)::e::r').toArray⟩:ByteArray).size:Int) > 1)=true from decide_eq_true (by rw[hsz];simp<;>omega)]
       conv=>whnf
       refine⟨_,_,q2,?_⟩;conv=>whnf
       refine hQ _ _ _ (by simp) ?_
       conv=>whnf
       refine⟨_,_,St.upd_same _ _ _,?_⟩;conv=>whnf
       refine⟨_,_,⟨rfl,rfl⟩,St.le_upd hle2 hb2 _,?_⟩;rw[hnone];exact⟨⟨rfl,rfl,rfl⟩,rfl,rfl⟩
    ·refine awp_seq2 fun K hK hQ=>?_
     conv=>whnf
     rw[show(((⟨(c::r).toArray⟩:ByteArray).size:Int) == 0)=false from by rw[hsz];exact beq_false_of_ne (by simp<;>omega)]
     conv=>whnf
     refine⟨⟨by decide,hsl⟩,?_⟩
     conv=>whnf
     have hbe:(byteAt ⟨(c::r).toArray⟩ (0:Int).toNat == 48)=false:=by
      rw[hby];refine beq_false_of_ne fun h=>he (UInt8.toNat_inj.1 ?_)
      have h48:(48:UInt8).toNat=48:=rfl
      omega
     rw[hbe];conv=>whnf
     refine hK _ _ ?_;clear hK hQ K;have hP:parseI (c::r)=if (c::r).all digitB=true then some (decV (c::r):Int) else none:=by
      unfold parseI;rw[htr,hpre];dsimp only
      by_cases ha:(c::r).all digitB=true
      ·rw[if_pos ha,if_neg (by rintro(h | h | h);cases h;exact he (by simpa using h.1);rw[ha] at h;cases h)]
       rfl
      ·rw[if_neg ha,if_pos (.inr (.inr (by simpa using ha)))]
     have hrl:(c::r).length≤9000000:=hl
     generalize c::r=d at *;refine awp_seq2 fun K hK hQ=>?_
     conv=>whnf
     refine⟨⟨Nat,fun i=>[(2,.ref b2 0),(4,.bool false),(5,.str ⟨d.toArray⟩),(6,.int .i64 (i:Int))],fun i S'=>S'=S2∧i≤d.length∧∀ j (h:j<d.length),j<i→digitB d[j]=true,fun i=>d.length-i⟩,
      ⟨0,⟨rfl,rfl,rfl,rfl,trivial⟩,_,St.leW_refl _,rfl,by omega,fun j h hj=>by omega⟩,?_⟩
     rintro(i:Nat) S' ⟨rfl,hi,hdg⟩;conv=>whnf
     refine split_of (fun hlt=>?_) (fun hlt=>?_)
     ·have hlt:i<d.length:=by have:=of_decide_eq_true hlt;rw[size_arr] at this;omega
      have hbi:byteAt ⟨d.toArray⟩ (i:Int).toNat=((d[i].toNat:Nat):Int):=byteAt_get d i hlt
      have hnd:digitB d[i]=false→d.all digitB=false:=fun h=>by
       cases ha:d.all digitB with
       | false=>rfl
       | true=>rw[List.all_eq_true.1 ha _ (List.getElem_mem hlt)] at h;cases h
      have hdi:digitB d[i]=(decide (48≤d[i].toNat) && decide (d[i].toNat≤57)):=rfl
      have hnx:digitB d[i]=true→∀ j (h:j<d.length),j<i+1→digitB d[j]=true:=fun h j hj hji=>by
       by_cases e:j=i
       ·subst e;exact h
       ·exact hdg j hj (by omega)
      have w1:IntKind.i64.wrap ((i:Int)+1)=((i+1:Nat):Int):=wrap_nat (by omega)
      generalize hgx:d[i]=x at *;conv=>whnf
      refine⟨⟨by omega,by rw[size_arr];omega⟩,?_⟩
      conv=>whnf
      rw[hbi]
      by_cases hx1:x.toNat<48
      ·have hnone:=hP.trans (if_neg (by rw[hnd (by rw[hdi,decide_eq_false (by omega)];rfl)];decide))
       rw[show decide (((x.toNat:Nat):Int)<48)=true from decide_eq_true (by omega)]
       conv=>whnf
       refine⟨_,_,q2,?_⟩;conv=>whnf
       refine hQ _ _ _ (by simp) ?_
       conv=>whnf
       refine⟨_,_,St.upd_same _ _ _,?_⟩;conv=>whnf
       refine⟨_,_,⟨rfl,rfl⟩,St.le_upd hle2 hb2 _,?_⟩;rw[hnone];exact⟨⟨rfl,rfl,rfl⟩,rfl,rfl⟩
      ·rw[show decide (((x.toNat:Nat):Int)<48)=false from decide_eq_false (by omega)]
       conv=>whnf
       refine⟨⟨by omega,by rw[size_arr];omega⟩,?_⟩
       conv=>whnf
       rw[hbi]
       by_cases hx2:57<x.toNat
       ·have hnone:=hP.trans (if_neg (by rw[hnd (by rw[hdi,decide_eq_false (show ¬ x.toNat≤57 by omega),Bool.and_false])];decide))
        rw[show decide (((x.toNat:Nat):Int) > 57)=true from decide_eq_true (by omega)]
        conv=>whnf
        refine⟨_,_,q2,?_⟩;conv=>whnf
        refine hQ _ _ _ (by simp) ?_
        conv=>whnf
        refine⟨_,_,St.upd_same _ _ _,?_⟩;conv=>whnf
        refine⟨_,_,⟨rfl,rfl⟩,St.le_upd hle2 hb2 _,?_⟩;rw[hnone];exact⟨⟨rfl,rfl,rfl⟩,rfl,rfl⟩
       ·rw[show decide (((x.toNat:Nat):Int) > 57)=false from decide_eq_false (by omega)]
        conv=>whnf
        exact⟨i+1,⟨rfl,rfl,rfl,congrArg _ w1,trivial⟩,⟨_,St.leW_refl _,rfl,hlt,hnx (by rw[hdi,decide_eq_true (by omega),decide_eq_true (by omega)];rfl)⟩,by show d.length-(i+1)<d.length-i;omega⟩
     have hlt:i=d.length:=by have:=of_decide_eq_false hlt;rw[size_arr] at this;omega
     subst hlt;have hall:d.all digitB=true:=List.all_eq_true.2 fun c hc=>by
      obtain⟨j,hj,rfl⟩:=List.getElem_of_mem hc;exact hdg j hj hj
     rw[if_pos hall] at hP;have hsome:∀ T:St,St.le S T→True:=fun _ _=>trivial
     conv=>whnf
     refine hK _ _ ?_;clear hK hQ K;refine awp_seq2 fun K hK hQ=>?_
     conv=>whnf
     refine hK _ _ ?_;clear hK hQ K;refine awp_seq2 fun K hK hQ=>?_
     conv=>whnf
     refine⟨⟨Nat×List Nat×Nat,fun x=>[(2,.ref b2 0),(4,.bool false),(5,.str ⟨d.toArray⟩),(7,.sl (.acc x.2.2) 1 (rowsN x.2.1)),(8,.int .i64 ((d.length:Int)-9*(x.1:Int)))],
      fun x S1=>AccOk S' S1 3 1 x.2.2 x.2.1.length∧x.2.1.length=x.1∧9*x.1≤d.length+8∧decV d=decV (d.take (d.length-9*x.1))*1000000000 ^ x.1+valL x.2.1∧∀ y∈x.2.1,y<1000000000,fun x=>d.length+9-9*x.1⟩,
      ⟨(0,[],0),⟨rfl,rfl,rfl,rfl,congrArg (AV.int .i64) (by rw[size_arr];simp),trivial⟩,_,St.leW_refl _,AccOk.init _ _ _ _,rfl,by omega,by simp[valL],by simp⟩,?_⟩
     rintro⟨k,acc,ba⟩ S1 ⟨g1,g2,g3,g4,g5⟩;dsimp only at g1 g2 g3 g4 g5;conv=>whnf
     refine split_of (fun hgt=>?_) (fun hgt=>?_)
     ·have hgt:9*k<d.length:=by have:=of_decide_eq_true hgt;dsimp only at this;omega
      have w9:IntKind.i64.wrap ((d.length:Int)-9*(k:Int)-9)=(d.length:Int)-9*((k+1:Nat):Int):=by rw[wrap_i64 (by omega) (by omega)];omega
      have hmax:(if IntKind.i64.wrap ((d.length:Int)-9*(k:Int)-9) > 0 then IntKind.i64.wrap ((d.length:Int)-9*(k:Int)-9) else 0)=((d.length-9*k-9:Nat):Int):=by
       rw[w9]
       split<;>omega
      have hen:(d.length:Int)-9*(k:Int)=((d.length-9*k:Nat):Int):=by omega
      have hstep:=chunk_step g2 g4 hgt
      generalize hst:d.length-9*k-9=st at *;generalize hee:d.length-9*k=en at *;have hsub:∀ i,i≤en→((d.take i).drop st).all digitB=true:=fun i hi=>List.all_eq_true.2 fun c hc=>List.all_eq_true.1 hall c (List.mem_of_mem_take (List.mem_of_mem_drop hc))
      conv=>whnf
      refine⟨⟨Nat,fun i=>[(2,.ref b2 0),(4,.bool false),(5,.str ⟨d.toArray⟩),(7,.sl (.acc ba) 1 (rowsN acc)),(8,.int .i64 (en:Int)),(9,.int .i64 (decV ((d.take i).drop st):Int)),(10,.int .i64 (i:Int))],
       fun i S2=>S2=S1∧st≤i∧i≤en,fun i=>en-i⟩,
       ⟨st,⟨rfl,rfl,rfl,rfl,congrArg _ hen,by rw[List.drop_of_length_le (by rw[List.length_take];omega)];rfl,congrArg _ hmax,trivial⟩,_,St.leW_refl _,rfl,by omega,by omega⟩,?_⟩
      rintro(i:Nat) S3 ⟨rfl,hi1,hi2⟩;conv=>whnf
      refine split_of (fun hil=>?_) (fun hil=>?_)
      ·have hil:i<en:=by have:=of_decide_eq_true hil;omega
       have hid:i<d.length:=by omega
       have hbi:byteAt ⟨d.toArray⟩ (i:Int).toNat=((d[i].toNat:Nat):Int):=byteAt_get d i hid
       have hdx:digitB d[i]=true:=List.all_eq_true.1 hall _ (List.getElem_mem hid)
       unfold digitB at hdx;simp only[Bool.and_eq_true,decide_eq_true_eq] at hdx;have hsn:(d.take (i+1)).drop st=(d.take i).drop st++[d[i]]:=by
        rw[List.take_succ_eq_append_getElem hid,List.drop_append_of_le_length (by rw[List.length_take];omega)]
       have hv:=decV_lt _ (hsub i (by omega))
       rw[List.length_drop,List.length_take] at hv;have hv8:decV ((d.take i).drop st)<100000000:=Nat.lt_of_lt_of_le hv (by
        have:=Nat.pow_le_pow_right (n:=10) (by decide) (show min i d.length-st≤8 by omega)
        omega)
       have hdv:decV ((d.take (i+1)).drop st)=10*decV ((d.take i).drop st)+(d[i].toNat-48):=by rw[hsn,decV_snoc]
       have w1:IntKind.i64.wrap ((i:Int)+1)=((i+1:Nat):Int):=wrap_nat (by omega)
       generalize d[i]=x at *;have hu:IntKind.u8.wrap (((x.toNat:Nat):Int)-48)=((x.toNat-48:Nat):Int):=by
        unfold IntKind.wrap
        simp[IntKind.bits,IntKind.signed]
        omega
       have hwv:IntKind.i64.wrap (IntKind.i64.wrap (10*(decV ((d.take i).drop st):Int))+IntKind.i64.wrap (IntKind.u8.wrap (byteAt ⟨d.toArray⟩ (i:Int).toNat-48)))=(decV ((d.take (i+1)).drop st):Int):=by
        rw[hbi,hu,wrap_i64 (n:=10*(decV ((d.take i).drop st):Int)) (by omega) (by omega),wrap_i64 (n:=((x.toNat-48:Nat):Int)) (by omega) (by omega),wrap_i64 (by omega) (by omega),hdv]
        omega
       conv=>whnf
       refine⟨⟨by omega,by rw[size_arr];omega⟩,?_⟩
       conv=>whnf
       exact⟨i+1,⟨rfl,rfl,rfl,rfl,rfl,congrArg _ hwv,congrArg _ w1,trivial⟩,⟨_,St.leW_refl _,rfl,by omega,by omega⟩,by show en-(i+1)<en-i;omega⟩
      ·have hil:i=en:=by have:=of_decide_eq_false hil;omega
       subst hil;conv=>whnf
       intro bb hbb;have g1':=g1.other hbb (.tip 3 1 1);conv=>whnf
       refine⟨⟨fun hl=>?_,?_⟩,fun S4 c1 c2 b' c3=>?_⟩
       ·have:0<acc.length:=by cases acc with
         | nil=>exact absurd rfl hl
         | cons _ _=>simp
        rw[rowsN_len];exact g1'.tip this
       ·show((rowsN acc).length+1)*8≤_
        rw[rowsN_len];omega
       have g5':=g1'.push (m:=acc.length+1) (by rw[rowsN_len]) c1 c2 c3 rfl
       rw[rowsN_len];conv=>whnf
       have w10:IntKind.i64.wrap ((i:Int)-9)=(d.length:Int)-9*((k+1:Nat):Int):=by rw[← hen];exact w9
       have hlt9:decV ((d.take i).drop st)<1000000000:=by
        have hv:=decV_lt _ (hsub i (by omega))
        rw[List.length_drop,List.length_take] at hv;have:=Nat.pow_le_pow_right (n:=10) (by decide) (show min i d.length-st≤9 by omega)
        omega
       refine⟨(k+1,acc++[decV ((d.take i).drop st)],b'),⟨rfl,rfl,rfl,congrArg (AV.sl (.acc b') 1) (by simp[rowsN]),congrArg _ w10,trivial⟩,⟨_,St.leW_refl _,by rw[show(acc++[decV ((d.take i).drop st)]).length=acc.length+1 by simp];exact g5',by simp[g2],by dsimp only;omega,by dsimp only;rw[show d.length-9*(k+1)=st by omega];exact hstep,fun y hy=>?_⟩,by show d.length+9-9*(k+1)<d.length+9-9*k;omega⟩
       rcases List.mem_append.1 hy with hy | hy
       ·exact g5 y hy
       ·rw[List.mem_singleton.1 hy];exact hlt9
     ·have hgt:d.length≤9*k:=by have:=of_decide_eq_false hgt;dsimp only at this;omega
      have g4:decV d=valL acc:=by rw[g4,show d.length-9*k=0 by omega];simp[decV]
      have hmd:=fun S=>made1_ok (G:=G) false acc g5 S
      conv=>whnf
      refine hK _ _ ?_;clear hK hQ K;conv=>whnf
      refine Triple.use (hmd _) (by exact⟨rfl,⟨rfl,rfl⟩,trivial⟩) ?_
      rintro o T ⟨rfl,rfl⟩;have q3:=g1.le _ _ q2;conv=>whnf
      refine⟨_,_,q3,?_⟩;conv=>whnf
      refine⟨_,_,St.upd_same _ _ _,?_⟩;conv=>whnf
      refine⟨_,_,⟨rfl,rfl⟩,St.le_upd (St.le_trans hle2 g1.le) hb2 _,?_⟩;rw[hP,g4];exact AV.leS_refl _ _ _
theorem RParse_ok(s:ByteArray)(hl:s.size≤9000000)(S:St):Triple P (C G) 106 [.str s] S fun o S'=>o=.ret (.tu [refI ((parseI s.data.toList).getD 0),.bool (parseI s.data.toList).isSome])∧S'=S:=by
 have h:=Parse1_s (G:=G) s.data.toList (by simpa using hl) S
 rwa [show(⟨s.data.toList.toArray⟩:ByteArray)=s from by obtain⟨⟨l⟩⟩:=s;rfl] at h
end Go.Proofs.YtogipknpafkfpaaGreatDoor.Aw

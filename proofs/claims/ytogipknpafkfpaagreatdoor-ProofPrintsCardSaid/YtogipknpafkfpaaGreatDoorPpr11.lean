/- Package proof's reader: op, pol. Package proof's reader: pol. Package proof, walked: table, parse. errors.As at a target -/
import Derived.Test.YtogipknpafkfpaaGreatDoorPpr10
import Derived.WalkKit
import Derived.LaidEql
import Derived.Stop.Asserts
import Derived.RowKitTokens
import Derived.Test.YtogipknpafkfpaaGreatDoorPpr7
import Derived.Lib.ItoaLen
set_option linter.all false
set_option maxRecDepth 100000
namespace Go.Proofs.YtogipknpafkfpaaGreatDoor.Aw
open Go Go.RowKit
variable {G:Nat→Option (List AV)}
def plusS:ByteArray:=⟨#[43]⟩
def sS:ByteArray:=⟨#[115]⟩
def tbN:List (ByteArray×Int):=[(⟨#[42]⟩,4),(⟨#[100]⟩,5)]
def tbL:List (ByteArray×Int):=[(⟨#[119]⟩,7)]
def opG(ws:List ByteArray):(Int×ByteArray×Int)×Int×List ByteArray:=
 match ws with
 | []=>((0,ByteArray.empty,0),82,[])
 | w::l=>
   if w=plusS then ((3,ByteArray.empty,0),0,l)
   else if w=sS then ((6,ByteArray.empty,0),0,l)
   else if isNumV w.data.toList 1=true then (((behindG tbN l 1).1,w,0),0,(behindG tbN l 1).2)
   else if isNumV w.data.toList (-1)=true then ((0,ByteArray.empty,0),81,l)
   else if 0<litV w.data.toList then (((behindG tbL l 2).1,ByteArray.empty,litV w.data.toList),0,(behindG tbL l 2).2)
   else if litV w.data.toList<0 then ((2,ByteArray.empty,litV w.data.toList),0,l)
   else ((0,ByteArray.empty,0),80,l)
theorem behindG_suffix(tb:List (ByteArray×Int))(ws:List ByteArray)(k:Int):(behindG tb ws k).2 <:+ ws:=by
 cases ws with
 | nil=>exact List.suffix_refl _
 | cons w l=>
   unfold behindG;dsimp only
   split
   ·exact List.suffix_cons _ _
   ·exact List.suffix_refl _
theorem opG_suffix(ws:List ByteArray):(opG ws).2.2 <:+ ws:=by
 cases ws with
 | nil=>exact List.suffix_refl _
 | cons w l=>
   unfold opG;dsimp only
   repeat' split
   all_goals first | exact List.suffix_cons _ _ | exact(behindG_suffix _ _ _).trans (List.suffix_cons _ _)
def opAV(o:Int×ByteArray×Int):AV:=.ag [.int .i64 o.1,.str o.2.1,.int .i64 o.2.2]
theorem RdrAt.with{S₀ S:St}{rb x:Nat}{ws:List ByteArray}{v:StepV}{t:Tips}(h:RdrAt S₀ S rb ws v t){e:TypeId}{cs:List AV}(hx:S x=some (.obj e cs))(hne:rb≠x):RdrAt (S₀.upd x (.obj e cs)) S rb ws v t:=by
 have hk:∀ b e' k n,S b=some (.tip e' k n)∧S₀ b=none→S b=some (.tip e' k n)∧(S₀.upd x (.obj e cs)) b=none:=fun b e' k n hb=>by
  refine⟨hb.1,?_⟩;rw[St.upd_ne _ _ _ _ (fun eb=>by subst eb;rw[hx] at hb;cases hb.1)];exact hb.2
 refine⟨fun y p hy=>?_,by rw[St.upd_ne _ _ _ _ hne];exact h.new,h.at_,fun hn=>hk _ _ _ _ (h.t3 hn),fun hn=>hk _ _ _ _ (h.t4 hn),fun hn=>hk _ _ _ _ (h.t6 hn),fun hn=>hk _ _ _ _ (h.t7 hn)⟩
 by_cases hyx:y=x
 ·subst hyx;rw[St.upd_same] at hy;rw[hx];exact hy
 ·rw[St.upd_ne _ _ _ _ hyx] at hy;exact h.le y p hy
theorem RdrAt.without{S₀ S:St}{rb x:Nat}{ws:List ByteArray}{v:StepV}{t:Tips}{p:Own}(h:RdrAt (S₀.upd x p) S rb ws v t)(hx0:S₀ x=none):RdrAt S₀ S rb ws v t:=by
 have hn:∀ b,(S₀.upd x p) b=none→S₀ b=none:=fun b hb=>by
  by_cases e:b=x
  ·subst e;exact hx0
  ·rwa [St.upd_ne _ _ _ _ e] at hb
 refine⟨St.le_trans (St.le_upd' (St.le_refl _) hx0 _) h.le,hn _ h.new,h.at_,fun k=>⟨(h.t3 k).1,hn _ (h.t3 k).2⟩,fun k=>⟨(h.t4 k).1,hn _ (h.t4 k).2⟩,fun k=>⟨(h.t6 k).1,hn _ (h.t6 k).2⟩,fun k=>⟨(h.t7 k).1,hn _ (h.t7 k).2⟩⟩
theorem op_ok(hG:GS G){S₀ S:St}{rb:Nat}{ws:List ByteArray}{v:StepV}(h:Rdr S₀ S rb ws v)(hw:OkW ws) :
 Triple P (C G) 140 [.ref rb 0] S fun o S'=>o=.ret (.tu [opAV (opG ws).1,errAV (opG ws).2.1])∧Rdr S₀ S' rb (opG ws).2.2 v:=by
 obtain⟨t,hat⟩:=h;refine triple_of_awp (hT G) hm Tryz.func140 rfl (by decide +kernel) rfl (by decide +kernel) (by show 1≤_;decide +kernel) rfl ?_
 refine awp_seq2 fun K hK hQ=>?_
 conv=>whnf
 intro b2 hb2;conv=>whnf
 refine hK _ _ ?_;clear hK hQ K;have z2:=St.le_none hat.le hb2;have nr2:rb≠b2:=St.ne_of hb2 hat.at_;have hat2:=hat.more hb2 (.obj 85 [.int .i64 0,.str ByteArray.empty,.int .i64 0]);have q2:=St.upd_same S b2 (.obj 85 [.int .i64 0,.str ByteArray.empty,.int .i64 0]);generalize S.upd b2 (.obj 85 [.int .i64 0,.str ByteArray.empty,.int .i64 0])=S1 at *;have hcs:=hat2.at_;have htk:=rtake_ok (G:=G) rb ws _ _ hcs;refine awp_seq2 fun K hK hQ=>?_
 cases ws with
 | nil=>
   conv=>whnf
   refine htk.mono ?_;rintro o S' ⟨rfl,rfl⟩;conv=>whnf
   refine hK _ _ ?_;clear hK hQ K;conv=>whnf
   refine⟨_,_,q2,?_⟩;conv=>whnf
   refine⟨_,_,St.upd_same _ _ _,?_⟩;conv=>whnf
   exact⟨_,_,⟨rfl,t,hat2.put q2 z2 nr2 _⟩,St.le_refl _,AV.leS_refl _ _ _⟩
 | cons w l=>
   have hat3:=hat2.words (ws':=l)
   have hcs3:=hat3.at_
   have hw1:=hw.suffix (List.suffix_cons w l)
   have hws:w.size≤9000000:=hw.1 w (by simp)
   have q2:=St.ov (p:=rdr l (stepC v t)) nr2.symm q2
   conv=>whnf
   refine htk.mono ?_;rintro o S' ⟨rfl,rfl⟩;generalize S1.upd rb (rdr l (stepC v t))=S3 at *;clear htk;conv=>whnf
   refine hK _ _ ?_;clear hK hQ K;unfold opG;dsimp only;refine awp_seq2 fun K hK hQ=>?_
   conv=>whnf
   refine hK _ _ ?_;clear hK hQ K;refine awp_seq2 fun K hK hQ=>?_
   conv=>whnf
   refine(literal_ok hG w hws _).mono ?_;rintro o S' ⟨rfl,rfl⟩;generalize litV w.data.toList=z at *;conv=>whnf
   refine hK _ _ ?_;clear hK hQ K;refine awp_seq2 fun K hK hQ=>?_
   conv=>whnf
   refine split_of (fun hp=>?_) (fun hp=>?_)
   ·have h1:w=plusS:=of_decide_eq_true hp
    simp only[if_pos h1] at hQ;clear hK;conv=>whnf
    refine⟨_,_,q2,?_⟩;conv=>whnf
    refine hQ _ _ _ (by simp) ?_
    conv=>whnf
    refine⟨_,_,St.upd_same _ _ _,?_⟩;conv=>whnf
    exact⟨_,_,⟨rfl,t,hat3.put q2 z2 nr2 _⟩,St.le_refl _,AV.leS_refl _ _ _⟩
   have h1:¬ w=plusS:=of_decide_eq_false hp
   simp only[if_neg h1] at hK hQ;conv=>whnf
   refine split_of (fun hp=>?_) (fun hp=>?_)
   ·have h1:w=sS:=of_decide_eq_true hp
    simp only[if_pos h1] at hQ;clear hK;conv=>whnf
    refine⟨_,_,q2,?_⟩;conv=>whnf
    refine hQ _ _ _ (by simp) ?_
    conv=>whnf
    refine⟨_,_,St.upd_same _ _ _,?_⟩;conv=>whnf
    exact⟨_,_,⟨rfl,t,hat3.put q2 z2 nr2 _⟩,St.le_refl _,AV.leS_refl _ _ _⟩
   have h2:¬ w=sS:=of_decide_eq_false hp
   simp only[if_neg h2] at hK hQ;conv=>whnf
   refine(isNumber_ok w hws 1 (by decide) (by decide) _).mono ?_
   rintro o S' ⟨rfl,rfl⟩
   cases hn1:isNumV w.data.toList 1 with
   | true=>
     simp only[hn1,if_true] at hQ;clear hK;conv=>whnf
     intro mr hmr;conv=>whnf
     refine⟨_,St.upd_same _ _ _,?_⟩;conv=>whnf
     refine⟨_,St.upd_same _ _ _,?_⟩;conv=>whnf
     rw[St.upd_upd,St.upd_upd];have hat4:=hat3.more hmr (.mapo (encM tbN));have q3:(S'.upd mr (.mapo (encM tbN))) b2=some (.obj 85 [.int .i64 0,.str ByteArray.empty,.int .i64 0]):=St.up hmr q2;have nm2:mr≠b2:=fun e=>by subst e;rw[hmr] at q2;cases q2
     have hat4b:=hat4.with q3 nr2
     have hb:=behind_ok (tb:=tbN) (G:=G) (by decide) hat4b (by rw[St.upd_ne _ _ _ _ nm2];exact St.le_none hat3.le hmr) (St.upd_same _ _ _) 1 w 0
     refine hb.mono ?_;rintro o S'' ⟨rfl,t2,hat5⟩;have q4:=hat5.le _ _ (St.upd_same _ _ _);conv=>whnf
     refine⟨_,_,q4,?_⟩;conv=>whnf
     refine hQ _ _ _ (by simp) ?_
     conv=>whnf
     refine⟨_,_,St.upd_same _ _ _,?_⟩;conv=>whnf
     exact⟨_,_,⟨rfl,t2,(hat5.without z2).put q4 z2 nr2 _⟩,St.le_refl _,AV.leS_refl _ _ _⟩
   | false=>
     simp only[hn1,Bool.false_eq_true,if_false] at hK hQ;conv=>whnf
     refine(isNumber_ok w hws (-1) (by decide) (by decide) _).mono ?_
     rintro o S' ⟨rfl,rfl⟩
     cases hn2:isNumV w.data.toList (-1) with
     | true=>
       simp only[hn2,if_true] at hQ;clear hK;conv=>whnf
       refine(fail_ok 81 _).mono ?_;rintro o S' ⟨rfl,rfl⟩;conv=>whnf
       refine⟨_,_,q2,?_⟩;conv=>whnf
       refine hQ _ _ _ (by simp) ?_
       conv=>whnf
       refine⟨_,_,St.upd_same _ _ _,?_⟩;conv=>whnf
       exact⟨_,_,⟨rfl,t,hat3.put q2 z2 nr2 _⟩,St.le_refl _,AV.leS_refl _ _ _⟩
     | false=>
       simp only[hn2,Bool.false_eq_true,if_false] at hK hQ;conv=>whnf
       refine split_of (fun hz=>?_) (fun hz=>?_)
       ·have hz:0<z:=by have:=of_decide_eq_true hz;omega
        simp only[if_pos hz] at hQ;clear hK;conv=>whnf
        intro mr hmr;conv=>whnf
        refine⟨_,St.upd_same _ _ _,?_⟩;conv=>whnf
        rw[St.upd_upd];have hat4:=hat3.more hmr (.mapo (encM tbL));have q3:(S'.upd mr (.mapo (encM tbL))) b2=some (.obj 85 [.int .i64 0,.str ByteArray.empty,.int .i64 0]):=St.up hmr q2;have nm2:mr≠b2:=fun e=>by subst e;rw[hmr] at q2;cases q2
        have hat4b:=hat4.with q3 nr2
        have hb:=behind_ok (tb:=tbL) (G:=G) (by decide) hat4b (by rw[St.upd_ne _ _ _ _ nm2];exact St.le_none hat3.le hmr) (St.upd_same _ _ _) 2 ByteArray.empty z
        refine hb.mono ?_;rintro o S'' ⟨rfl,t2,hat5⟩;have q4:=hat5.le _ _ (St.upd_same _ _ _);conv=>whnf
        refine⟨_,_,q4,?_⟩;conv=>whnf
        refine hQ _ _ _ (by simp) ?_
        conv=>whnf
        refine⟨_,_,St.upd_same _ _ _,?_⟩;conv=>whnf
        exact⟨_,_,⟨rfl,t2,(hat5.without z2).put q4 z2 nr2 _⟩,St.le_refl _,AV.leS_refl _ _ _⟩
       have hz:¬ 0<z:=by have:=of_decide_eq_false hz;omega
       simp only[if_neg hz] at hK hQ;conv=>whnf
       refine split_of (fun hz2=>?_) (fun hz2=>?_)
       ·have hz2:z<0:=of_decide_eq_true hz2
        simp only[if_pos hz2] at hQ;clear hK;conv=>whnf
        refine⟨_,_,q2,?_⟩;conv=>whnf
        refine hQ _ _ _ (by simp) ?_
        conv=>whnf
        refine⟨_,_,St.upd_same _ _ _,?_⟩;conv=>whnf
        exact⟨_,_,⟨rfl,t,hat3.put q2 z2 nr2 _⟩,St.le_refl _,AV.leS_refl _ _ _⟩
       have hz2:¬ z<0:=of_decide_eq_false hz2
       simp only[if_neg hz2] at hK;conv=>whnf
       refine hK _ _ ?_;clear hK hQ K;conv=>whnf
       refine(fail_ok 80 _).mono ?_;rintro o S' ⟨rfl,rfl⟩;conv=>whnf
       refine⟨_,_,q2,?_⟩;conv=>whnf
       refine⟨_,_,St.upd_same _ _ _,?_⟩;conv=>whnf
       exact⟨_,_,⟨rfl,t,hat3.put q2 z2 nr2 _⟩,St.le_refl _,AV.leS_refl _ _ _⟩
abbrev OpV:=Int×ByteArray×Int
def polF:Nat→List ByteArray→List OpV→List OpV×Int×List ByteArray
 | 0,ws,ops=>(ops,0,ws)
 | f+1,ws,ops=>if ops=[]∨ws≠[] then (if (opG ws).2.1=0 then polF f (opG ws).2.2 (ops++[(opG ws).1]) else (ops,(opG ws).2.1,(opG ws).2.2)) else (ops,0,ws)
def polG(ws:List ByteArray)(v:StepV):RetG:=((polF (ws.length+2) ws v.ops).2.1,(polF (ws.length+2) ws v.ops).2.2,{ v with kind:=3,ops:=(polF (ws.length+2) ws v.ops).1 })
theorem opG_lt(ws:List ByteArray)(h:(opG ws).2.1=0):(opG ws).2.2.length<ws.length:=by
 cases ws with
 | nil=>simp[opG] at h
 | cons w l=>
   have:(opG (w::l)).2.2 <:+ l:=by
    unfold opG;dsimp only
    repeat' split
    all_goals first | exact List.suffix_refl _ | exact behindG_suffix _ _ _
   have:=this.length_le
   simp only[List.length_cons];omega
theorem rowsO_snoc(l:List OpV)(x:OpV):rowsO l++[[.int .i64 x.1,.str x.2.1,.int .i64 x.2.2]]=rowsO (l++[x]):=by simp[rowsO]
theorem pol_ok(hG:GS G){S₀ S:St}{rb:Nat}{ws:List ByteArray}{v:StepV}(h:Rdr S₀ S rb ws v)(hw:OkW ws)(hv:OkV v) :
 Triple P (C G) 114 [.ref rb 0] S fun o S'=>o=.ret (errAV (polG ws v).1)∧Rdr S₀ S' rb (polG ws v).2.1 (polG ws v).2.2:=by
 obtain⟨t,hat⟩:=h;have hcs:=hat.at_;have hat2:=hat.set (v':={ v with kind:=3 }) (ws':=ws) rfl rfl rfl rfl;unfold polG;refine triple_of_awp (hT G) hm Tryz.func114 rfl (by decide +kernel) rfl (by decide +kernel) (by show 1≤_;decide +kernel) rfl ?_
 refine awp_seq2 fun K hK hQ=>?_
 conv=>whnf
 refine hK _ _ ?_;clear hK hQ K;refine awp_seq2 fun K hK hQ=>?_
 conv=>whnf
 refine⟨_,_,hcs,?_⟩;conv=>whnf
 refine hK _ _ ?_;clear hK hQ K;refine awp_seq2 fun K hK hQ=>?_
 conv=>whnf
 refine⟨⟨Nat×List ByteArray×List OpV,fun _=>[(0,.ref rb 0)],
  fun x S'=>Rdr S₀ S' rb x.2.1 { v with kind:=3,ops:=x.2.2 }∧polF x.1 x.2.1 x.2.2=polF (ws.length+2) ws v.ops∧x.2.1.length<x.1∧x.2.1.length+x.2.2.length≤10000000∧OkW x.2.1,fun x=>x.2.1.length⟩,
  ⟨(ws.length+2,ws,v.ops),⟨rfl,trivial⟩,⟨_,St.leW_refl _,⟨t,hat2⟩,rfl,by show ws.length<ws.length+2;omega,by have:=hw.2;have:=hv.1;show ws.length+v.ops.length≤_;omega,hw⟩⟩,?_⟩
 rintro⟨f,l,ops⟩ S1 ⟨⟨t1,hat3⟩,h2,h3,h4,h5⟩;dsimp only at hat3 h2 h3 h4 h5;have hcs3:=hat3.at_;obtain⟨f,rfl⟩:∃ f',f=f'+1:=⟨f-1,by omega⟩
 rw[← h2] at hK hQ ⊢;clear h2
 by_cases hgo:ops=[]∨l≠[]
 ·simp only[polF,if_pos hgo] at hK hQ ⊢;have hop:=op_ok (G:=G) hG ⟨t1,hat3⟩ h5;have hlt:=opG_lt l;have hsf:=h5.suffix (opG_suffix l);generalize (opG l).1=o at *;generalize (opG l).2.1=e at *;generalize (opG l).2.2=l2 at *
  cases ops with
  | nil=>
    conv=>whnf
    refine⟨_,_,hcs3,?_⟩;conv=>whnf
    intro _;conv=>whnf
    refine hop.mono ?_;rintro o' S2 ⟨rfl,t2,hat4⟩
    by_cases he:e=0
    ·simp only[if_pos he] at hK hQ ⊢;simp only[errAV,if_pos he];have hlt:=hlt he;conv=>whnf
     intro b3 hb3;conv=>whnf
     refine⟨_,_,St.upd_same _ _ _,?_⟩;conv=>whnf
     rw[St.upd_upd];have hat5:=hat4.more hb3 (.obj 85 [.int .i64 o.1,.str o.2.1,.int .i64 o.2.2]);have q3:=St.upd_same S2 b3 (.obj 85 [.int .i64 o.1,.str o.2.1,.int .i64 o.2.2]);generalize S2.upd b3 (.obj 85 [.int .i64 o.1,.str o.2.1,.int .i64 o.2.2])=S3 at *;have hcs5:=hat5.at_;refine⟨[],(.free 0 (.free 1 (.free 2 (.free 3 (.free 4 (.free 5 (.free 6 (.one 7 (.one 8 (.free 9 (.free 10 (.free 11 (.one 12 .done .none)))) .none) .none)))))))),_,by decide +kernel,?_,fun _ _ h=>⟨_,.inl rfl,h⟩⟩
     conv=>whnf
     refine⟨_,_,hcs5,?_⟩;conv=>whnf
     refine⟨_,_,q3,?_⟩;conv=>whnf
     intro bb hbb;have hat6:=hat5.more hbb (.tip 85 3 1);conv=>whnf
     refine⟨⟨fun hl=>?_,?_⟩,fun S4 c1 c2 b' c3=>?_⟩
     ·have:0<(([]:List OpV)).length:=by
       cases hx:(([]:List OpV):List OpV) with
       | nil=>rw[hx] at hl;exact absurd rfl hl
       | cons _ _=>simp
      rw[rowsO_len];exact(hat6.t3 this).1
     ·show((rowsO (([]:List OpV))).length+1)*32≤_
      rw[rowsO_len];first | (simp at h4 ⊢;done) | (simp at h4 ⊢;omega)
     have ha:AccStep (_:St) t2.b3 85 3 (([]:List OpV)).length 1 b' (S4.upd b' (.tip 85 3 ((([]:List OpV)).length+1))):=.inr ⟨by simp,S4,fun e=>c1 (by rw[List.eq_nil_of_length_eq_zero e];rfl),fun e=>c2 (by intro hh;have h':(([]:List OpV):List OpV).length=0:=(rowsO_len _).symm.trans (congrArg List.length hh);omega),c3,rfl⟩
     obtain⟨k1,k2⟩:=hat6.push3 ha (new:=[o]) rfl;rw[show rowsO ({ v with kind:=3,ops:=([]:List OpV) }:StepV).ops++[[AV.int .i64 o.1,AV.str o.2.1,AV.int .i64 o.2.2]]=rowsO (([]:List OpV)++[o]) from rowsO_snoc (([]:List OpV)) o,show(rowsO ({ v with kind:=3,ops:=([]:List OpV) }:StepV).ops).length=(([]:List OpV)).length from rowsO_len (([]:List OpV))];conv=>whnf
     refine⟨_,_,k1,?_⟩;conv=>whnf
     refine⟨(f,l2,([]:List OpV)++[o]),⟨rfl,trivial⟩,⟨_,St.leW_refl _,⟨_,k2⟩,?_,?_,?_,hsf⟩,?_⟩
     ·rfl
     ·show l2.length<f
      omega
     ·show l2.length+(([]:List OpV)++[o]).length≤_
      try simp at hlt
      simp at h4 ⊢;omega
     ·show l2.length<_
      exact hlt
    ·simp only[if_neg he] at hQ;simp only[errAV,if_neg he] at hQ ⊢;clear hK;conv=>whnf
     intro b3 hb3;conv=>whnf
     refine⟨_,_,St.upd_same _ _ _,?_⟩;conv=>whnf
     refine hQ _ _ _ (by simp) ?_
     conv=>whnf
     exact⟨_,_,⟨rfl,t2,by rw[St.upd_upd];exact hat4.more hb3 _⟩,St.le_refl _,AV.leS_refl _ _ _⟩
  | cons o1 ops=>
    cases l with
    | nil=>exact absurd hgo (by simp)
    | cons w l=>
      conv=>whnf
      refine⟨_,_,hcs3,?_⟩;conv=>whnf
      intro _;conv=>whnf
      refine⟨_,_,hcs3,?_⟩;conv=>whnf
      intro _;refine split_of (fun hh=>?_) (fun hh=>by simp[rowsS] at hh)
      refine hop.mono ?_;rintro o' S2 ⟨rfl,t2,hat4⟩
      by_cases he:e=0
      ·simp only[if_pos he] at hK hQ ⊢;simp only[errAV,if_pos he];have hlt:=hlt he;conv=>whnf
       intro b3 hb3;conv=>whnf
       refine⟨_,_,St.upd_same _ _ _,?_⟩;conv=>whnf
       rw[St.upd_upd];have hat5:=hat4.more hb3 (.obj 85 [.int .i64 o.1,.str o.2.1,.int .i64 o.2.2]);have q3:=St.upd_same S2 b3 (.obj 85 [.int .i64 o.1,.str o.2.1,.int .i64 o.2.2]);generalize S2.upd b3 (.obj 85 [.int .i64 o.1,.str o.2.1,.int .i64 o.2.2])=S3 at *;have hcs5:=hat5.at_;refine⟨[],(.free 0 (.free 1 (.free 2 (.free 3 (.free 4 (.free 5 (.free 6 (.one 7 (.one 8 (.free 9 (.free 10 (.free 11 (.one 12 .done .none)))) .none) .none)))))))),_,by decide +kernel,?_,fun _ _ h=>⟨_,.inl rfl,h⟩⟩
       conv=>whnf
       refine⟨_,_,hcs5,?_⟩;conv=>whnf
       refine⟨_,_,q3,?_⟩;conv=>whnf
       intro bb hbb;have hat6:=hat5.more hbb (.tip 85 3 1);conv=>whnf
       refine⟨⟨fun hl=>?_,?_⟩,fun S4 c1 c2 b' c3=>?_⟩
       ·have:0<((o1::ops)).length:=by
         cases hx:((o1::ops):List OpV) with
         | nil=>rw[hx] at hl;exact absurd rfl hl
         | cons _ _=>simp
        rw[rowsO_len];exact(hat6.t3 this).1
       ·show((rowsO ((o1::ops))).length+1)*32≤_
        rw[rowsO_len];first | (simp at h4 ⊢;done) | (simp at h4 ⊢;omega)
       have ha:AccStep (_:St) t2.b3 85 3 ((o1::ops)).length 1 b' (S4.upd b' (.tip 85 3 (((o1::ops)).length+1))):=.inr ⟨by simp,S4,fun e=>c1 (by rw[List.eq_nil_of_length_eq_zero e];rfl),fun e=>c2 (by intro hh;have h':((o1::ops):List OpV).length=0:=(rowsO_len _).symm.trans (congrArg List.length hh);omega),c3,rfl⟩
       obtain⟨k1,k2⟩:=hat6.push3 ha (new:=[o]) rfl;rw[show rowsO ({ v with kind:=3,ops:=(o1::ops) }:StepV).ops++[[AV.int .i64 o.1,AV.str o.2.1,AV.int .i64 o.2.2]]=rowsO ((o1::ops)++[o]) from rowsO_snoc ((o1::ops)) o,show(rowsO ({ v with kind:=3,ops:=(o1::ops) }:StepV).ops).length=((o1::ops)).length from rowsO_len ((o1::ops))];conv=>whnf
       refine⟨_,_,k1,?_⟩;conv=>whnf
       refine⟨(f,l2,(o1::ops)++[o]),⟨rfl,trivial⟩,⟨_,St.leW_refl _,⟨_,k2⟩,?_,?_,?_,hsf⟩,?_⟩
       ·rfl
       ·show l2.length<f
        omega
       ·show l2.length+((o1::ops)++[o]).length≤_
        try simp at hlt
        simp at h4 ⊢;omega
       ·show l2.length<_
        exact hlt
      ·simp only[if_neg he] at hQ;simp only[errAV,if_neg he] at hQ ⊢;clear hK;conv=>whnf
       intro b3 hb3;conv=>whnf
       refine⟨_,_,St.upd_same _ _ _,?_⟩;conv=>whnf
       refine hQ _ _ _ (by simp) ?_
       conv=>whnf
       exact⟨_,_,⟨rfl,t2,by rw[St.upd_upd];exact hat4.more hb3 _⟩,St.le_refl _,AV.leS_refl _ _ _⟩
 ·have ho:ops≠[]:=fun e=>hgo (.inl e)
  have hl:l=[]:=by
   cases l with
   | nil=>rfl
   | cons _ _=>exact absurd (.inr (by simp)) hgo
  subst hl;simp only[polF,if_neg hgo] at hK hQ;conv=>whnf
  refine⟨_,_,hcs3,?_⟩;conv=>whnf
  intro _
  cases ops with
  | nil=>exact absurd rfl ho
  | cons o ops=>
    conv=>whnf
    refine⟨_,_,hcs3,?_⟩;conv=>whnf
    intro _;conv=>whnf
    refine hK _ _ ?_;clear hK hQ K;conv=>whnf
    exact⟨_,_,⟨rfl,t1,hat3⟩,St.le_refl _,AV.leS_refl _ _ _⟩
def kHead:ByteArray:=⟨#[112,115,101,117,100,111,45,66,111,111,108,101,97,110]⟩
def kF:ByteArray:=⟨#[102]⟩
def kPol:ByteArray:=⟨#[112,111,108]⟩
def kRup:ByteArray:=⟨#[114,117,112]⟩
def kSoli:ByteArray:=⟨#[115,111,108,105]⟩
def kSolx:ByteArray:=⟨#[115,111,108,120]⟩
def kE:ByteArray:=⟨#[101]⟩
def kDel:ByteArray:=⟨#[100,101,108]⟩
def kStar:ByteArray:=⟨#[42]⟩
def kOut:ByteArray:=⟨#[111,117,116,112,117,116]⟩
def kConc:ByteArray:=⟨#[99,111,110,99,108,117,115,105,111,110]⟩
def kEnd:ByteArray:=⟨#[101,110,100]⟩
def fnAV(f:Nat):AV:=.fn (.func f) [] []
def tabE:List (AV×AV):=[
 (.str kHead,fnAV 112),(.str kF,fnAV 113),(.str kPol,fnAV 114),(.str kRup,fnAV 115),
 (.str kSoli,fnAV 116),(.str kSolx,fnAV 117),(.str kE,fnAV 118),(.str kDel,fnAV 119),
 (.str kStar,fnAV 120),(.str kOut,fnAV 121),(.str kConc,fnAV 122),(.str kEnd,fnAV 123)]
theorem table_ok(S:St):Triple P (C G) 93 [] S fun o S'=>∃ mr,S mr=none∧o=.ret (.mp mr)∧S'=S.upd mr (.mapo tabE):=by
 refine triple_of_awp (hT G) hm Tryz.func93 rfl (by decide +kernel) rfl (by decide +kernel) (by show 0≤_;decide +kernel) rfl ?_
 conv=>whnf
 intro mr hmr;conv=>whnf
 refine⟨_,St.upd_same _ _ _,?_⟩;conv=>whnf
 refine⟨_,St.upd_same _ _ _,?_⟩;conv=>whnf
 refine⟨_,St.upd_same _ _ _,?_⟩;conv=>whnf
 refine⟨_,St.upd_same _ _ _,?_⟩;conv=>whnf
 refine⟨_,St.upd_same _ _ _,?_⟩;conv=>whnf
 refine⟨_,St.upd_same _ _ _,?_⟩;conv=>whnf
 refine⟨_,St.upd_same _ _ _,?_⟩;conv=>whnf
 refine⟨_,St.upd_same _ _ _,?_⟩;conv=>whnf
 refine⟨_,St.upd_same _ _ _,?_⟩;conv=>whnf
 refine⟨_,St.upd_same _ _ _,?_⟩;conv=>whnf
 refine⟨_,St.upd_same _ _ _,?_⟩;conv=>whnf
 refine⟨_,St.upd_same _ _ _,?_⟩;conv=>whnf
 simp only[St.upd_upd];refine⟨_,_,⟨mr,hmr,rfl,rfl⟩,St.le_refl _,AV.leS_refl _ _ _⟩
def zeroV:StepV:=⟨0,ByteArray.empty,[],[],ByteArray.empty,[],[],0,ByteArray.empty,ByteArray.empty⟩
def tabG(w:ByteArray):Option (List ByteArray→StepV→RetG):=
 if w=kHead then some (fixG 1 headWords) else if w=kF then some countG else if w=kPol then some polG else if w=kRup then some rupG
 else if w=kSoli then some (solG 5) else if w=kSolx then some (solG 11) else if w=kE then some sameG else if w=kDel then some delG
 else if w=kStar then some noteG else if w=kOut then some (fixG 8 outputWords) else if w=kConc then some conclG else if w=kEnd then some (fixG 10 lastWords) else none
def finG(r:RetG):StepV×Int:=(r.2.2,if r.1=0 then (if r.2.1=[] then 0 else 80) else r.1)
def parseW(ws:List ByteArray):StepV×Int:=
 match ws with
 | []=>({ zeroV with kind:=7 },0)
 | w::l=>match tabG w with
   | some f=>finG (f l zeroV)
   | none=>(zeroV,80)
def stepAV(v:StepV):AV:=.ag [.int .i64 v.kind,.str v.num,.sl .any 3 (rowsO v.ops),.sl .any 2 (rowsP v.pieces),.str v.bound,.sl .any 1 (rowsI v.lits),.sl .any 1 (rowsS v.ids),.int .i64 v.n6,.str v.s7,.str v.s8]
def stepZ:List AV:=[.int .i64 0,.str ByteArray.empty,.nils,.nils,.str ByteArray.empty,.nils,.nils,.int .i64 0,.str ByteArray.empty,.str ByteArray.empty]
theorem parse_ok(hG:GS G)(s:ByteArray)(hs:s.size≤8999999)(S:St) :
 Triple P (C G) 66 [.str s] S fun o S'=>o=.ret (.tu [stepAV (parseW (wordsL s)).1,errAV (parseW (wordsL s)).2])∧S'=S:=by
 have hwo:OkW (wordsL s):=⟨fun w hw=>Nat.le_trans (wordsL_size s w hw) (by omega),Nat.le_trans (wordsL_len s) (by omega)⟩
 have hwords:=fun S=>words_ok (G:=G) s (by omega) S
 generalize wordsL s=ws at *;refine triple_of_awp (hT G) hm Tryz.func66 rfl (by decide +kernel) rfl (by decide +kernel) (by show 1≤_;decide +kernel) rfl ?_
 refine awp_seq2 fun K hK hQ=>?_
 conv=>whnf
 intro b2 hb2;conv=>whnf
 refine hK _ _ ?_;clear hK hQ K;refine awp_seq2 fun K hK hQ=>?_
 conv=>whnf
 refine(hwords _).mono ?_;rintro o S' ⟨rfl,rfl⟩;conv=>whnf
 intro rb hrb;conv=>whnf
 refine hK _ _ ?_;clear hK hQ K;refine awp_seq2 fun K hK hQ=>?_
 conv=>whnf
 refine⟨_,_,St.upd_same _ _ _,?_⟩;conv=>whnf
 intro _;have hle:St.le S ((S.upd b2 (.obj 54 stepZ)).upd rb (.obj 164 (.sl .full 1 (rowsS ws)::stepZ))):=St.le_upd' (St.le_upd' (St.le_refl _) hb2 _) hrb _;have q2:((S.upd b2 (.obj 54 stepZ)).upd rb (.obj 164 (.sl .full 1 (rowsS ws)::stepZ))) b2=some (.obj 54 stepZ):=St.up hrb (St.upd_same _ _ _);have hw3:St.leW ((S.upd b2 (.obj 54 stepZ)).upd rb (rdr ws (stepC zeroV ⟨0,0,0,0⟩))) ((S.upd b2 (.obj 54 stepZ)).upd rb (.obj 164 (.sl .full 1 (rowsS ws)::stepZ))):=by
  have:=St.leW_upd (cs':=.sl .any 1 (rowsS ws)::stepC zeroV ⟨0,0,0,0⟩) (St.upd_same (S.upd b2 (.obj 54 stepZ)) rb (.obj 164 (.sl .full 1 (rowsS ws)::stepZ))) ⟨⟨rfl,rfl⟩,rfl,rfl,rfl,rfl,rfl,rfl,rfl,rfl,rfl,rfl,trivial⟩
  rwa [St.upd_upd] at this
 have hat:RdrAt (S.upd b2 (.obj 54 stepZ)) ((S.upd b2 (.obj 54 stepZ)).upd rb (rdr ws (stepC zeroV ⟨0,0,0,0⟩))) rb ws zeroV ⟨0,0,0,0⟩:=
  ⟨St.le_upd' (St.le_refl _) hrb _,hrb,St.upd_same _ _ _,fun h=>absurd h (by decide),fun h=>absurd h (by decide),fun h=>absurd h (by decide),fun h=>absurd h (by decide)⟩
 cases ws with
 | nil=>
   conv=>whnf
   refine⟨_,_,q2,?_⟩;conv=>whnf
   refine hQ _ _ _ (by simp) ?_
   conv=>whnf
   refine⟨_,_,St.upd_same _ _ _,?_⟩;conv=>whnf
   refine⟨_,_,⟨rfl,rfl⟩,?_,⟨⟨rfl,rfl,rfl,rfl,rfl,rfl,rfl,rfl,rfl,rfl,rfl⟩,rfl,rfl⟩⟩;exact St.le_upd (St.le_upd' (St.le_upd' (St.le_refl _) hb2 _) hrb _) hb2 _
 | cons w l=>
   conv=>whnf
   refine hK _ _ ?_;clear hK hQ K;have htk:=Triple.weakS (rtake_ok (G:=G) rb (w::l) _ _ hat.at_) hw3;have hat2:=hat.words (ws':=l);have hw1:=hwo.suffix (List.suffix_cons w l);refine awp_seq2 fun K hK hQ=>?_
   conv=>whnf
   refine htk.mono ?_;rintro o S' ⟨rfl,rfl⟩;clear htk hw3;conv=>whnf
   refine hK _ _ ?_;clear hK hQ K;have hn2:rb≠b2:=(St.ne_upd hrb);have hS0:∀ S',RdrAt (S.upd b2 (.obj 54 stepZ)) S' rb l zeroV ⟨0,0,0,0⟩→S' b2=some (.obj 54 stepZ):=fun S' h=>h.le _ _ (St.upd_same _ _ _)
   generalize ((S.upd b2 _).upd rb _).upd rb _=S1 at hat2 ⊢;have hz2:∀ S':St,St.le (S.upd b2 (.obj 54 stepZ)) S'→∀ o,St.le S (S'.upd b2 o):=fun S' h o=>St.le_upd (St.le_trans (St.le_upd' (St.le_refl _) hb2 _) h) hb2 _
   have q20:=St.upd_same S b2 (.obj 54 stepZ)
   generalize S.upd b2 (.obj 54 stepZ)=S0 at *;refine awp_seq2 fun K hK hQ=>?_
   conv=>whnf
   refine(table_ok _).mono ?_;rintro o S' ⟨mr,hmr,rfl,rfl⟩;have hat3:=hat2.more hmr (.mapo tabE);conv=>whnf
   refine⟨_,St.upd_same _ _ _,?_⟩;generalize S1.upd mr (.mapo tabE)=S2 at *;have hv:OkV zeroV:=⟨by decide,by decide,by decide,by decide⟩
   conv=>whnf
   refine split_of (fun h=>?_) (fun h=>?_)
   ·have hh:w=kHead:=of_decide_eq_true h
    have hg:tabG w=some (fixG 1 headWords):=by unfold tabG;rw[if_pos hh]
    have hf:=head_ok (G:=G) ⟨_,hat3⟩
    have hpw:parseW (w::l)=finG (fixG 1 headWords l zeroV):=by unfold parseW;dsimp only;rw[hg]
    rw[hpw] at hK hQ;clear hpw hg;generalize fixG 1 headWords l zeroV=r at *;obtain⟨e,l3,v3⟩:=r;dsimp only at hf;unfold finG at hK hQ;dsimp only at hK hQ;conv=>whnf
    refine hK _ _ ?_;clear hK hQ K;refine awp_seq2 fun K hK hQ=>?_
    conv=>whnf
    refine hK _ _ ?_;clear hK hQ K;refine awp_seq2 fun K hK hQ=>?_
    conv=>whnf
    refine hf.mono ?_;rintro o S' ⟨rfl,t3,hr⟩;have q2:=hr.le _ _ q20;have hle:=hz2 S' hr.le;have hrs:=hr.at_
    by_cases he:e=0
    ·simp only[if_pos he] at hK hQ;simp only[errAV,if_pos he];conv=>whnf
     refine hK _ _ ?_;clear hK hQ K;refine awp_seq2 fun K hK hQ=>?_
     conv=>whnf
     refine(rend_ok rb l3 _ S' hrs).mono ?_;rintro o T ⟨rfl,rfl⟩
     cases l3 with
     | nil=>
       simp only[if_true] at hK hQ ⊢;conv=>whnf
       refine hK _ _ ?_;clear hK hQ K;conv=>whnf
       refine⟨_,_,hrs,?_⟩;conv=>whnf
       refine⟨_,_,q2,?_⟩;conv=>whnf
       refine⟨_,_,St.upd_same _ _ _,?_⟩;conv=>whnf
       exact⟨_,_,⟨rfl,rfl⟩,hle _,⟨⟨rfl,rfl,⟨rfl,rfl⟩,⟨rfl,rfl⟩,rfl,⟨rfl,rfl⟩,⟨rfl,rfl⟩,rfl,rfl,rfl,rfl⟩,rfl,rfl⟩⟩
     | cons x l3=>
       simp only[reduceCtorEq,if_false] at hK hQ ⊢;conv=>whnf
       refine hK _ _ ?_;clear hK hQ K;conv=>whnf
       refine⟨_,_,hrs,?_⟩;conv=>whnf
       refine⟨_,_,q2,?_⟩;conv=>whnf
       refine⟨_,_,St.upd_same _ _ _,?_⟩;conv=>whnf
       exact⟨_,_,⟨rfl,rfl⟩,hle _,⟨⟨rfl,rfl,⟨rfl,rfl⟩,⟨rfl,rfl⟩,rfl,⟨rfl,rfl⟩,⟨rfl,rfl⟩,rfl,rfl,rfl,rfl⟩,AV.leS_refl _ _ _,rfl⟩⟩
    ·simp only[if_neg he] at hK hQ;simp only[errAV,if_neg he] at hK hQ ⊢;conv=>whnf
     refine hK _ _ ?_;clear hK hQ K;refine awp_seq2 fun K hK hQ=>?_
     conv=>whnf
     refine hK _ _ ?_;clear hK hQ K;conv=>whnf
     refine⟨_,_,hrs,?_⟩;conv=>whnf
     refine⟨_,_,q2,?_⟩;conv=>whnf
     refine⟨_,_,St.upd_same _ _ _,?_⟩;conv=>whnf
     exact⟨_,_,⟨rfl,rfl⟩,hle _,⟨⟨rfl,rfl,⟨rfl,rfl⟩,⟨rfl,rfl⟩,rfl,⟨rfl,rfl⟩,⟨rfl,rfl⟩,rfl,rfl,rfl,rfl⟩,AV.leS_refl _ _ _,rfl⟩⟩
   have n0:¬ w=kHead:=of_decide_eq_false h
   conv=>whnf
   refine split_of (fun h=>?_) (fun h=>?_)
   ·have hh:w=kF:=of_decide_eq_true h
    have hg:tabG w=some (countG):=by unfold tabG;rw[if_neg n0,if_pos hh]
    have hf:=count_ok (G:=G) ⟨_,hat3⟩ hw1
    have hpw:parseW (w::l)=finG (countG l zeroV):=by unfold parseW;dsimp only;rw[hg]
    rw[hpw] at hK hQ;clear hpw hg;generalize countG l zeroV=r at *;obtain⟨e,l3,v3⟩:=r;dsimp only at hf;unfold finG at hK hQ;dsimp only at hK hQ;conv=>whnf
    refine hK _ _ ?_;clear hK hQ K;refine awp_seq2 fun K hK hQ=>?_
    conv=>whnf
    refine hK _ _ ?_;clear hK hQ K;refine awp_seq2 fun K hK hQ=>?_
    conv=>whnf
    refine hf.mono ?_;rintro o S' ⟨rfl,t3,hr⟩;have q2:=hr.le _ _ q20;have hle:=hz2 S' hr.le;have hrs:=hr.at_
    by_cases he:e=0
    ·simp only[if_pos he] at hK hQ;simp only[errAV,if_pos he];conv=>whnf
     refine hK _ _ ?_;clear hK hQ K;refine awp_seq2 fun K hK hQ=>?_
     conv=>whnf
     refine(rend_ok rb l3 _ S' hrs).mono ?_;rintro o T ⟨rfl,rfl⟩
     cases l3 with
     | nil=>
       simp only[if_true] at hK hQ ⊢;conv=>whnf
       refine hK _ _ ?_;clear hK hQ K;conv=>whnf
       refine⟨_,_,hrs,?_⟩;conv=>whnf
       refine⟨_,_,q2,?_⟩;conv=>whnf
       refine⟨_,_,St.upd_same _ _ _,?_⟩;conv=>whnf
       exact⟨_,_,⟨rfl,rfl⟩,hle _,⟨⟨rfl,rfl,⟨rfl,rfl⟩,⟨rfl,rfl⟩,rfl,⟨rfl,rfl⟩,⟨rfl,rfl⟩,rfl,rfl,rfl,rfl⟩,rfl,rfl⟩⟩
     | cons x l3=>
       simp only[reduceCtorEq,if_false] at hK hQ ⊢;conv=>whnf
       refine hK _ _ ?_;clear hK hQ K;conv=>whnf
       refine⟨_,_,hrs,?_⟩;conv=>whnf
       refine⟨_,_,q2,?_⟩;conv=>whnf
       refine⟨_,_,St.upd_same _ _ _,?_⟩;conv=>whnf
       exact⟨_,_,⟨rfl,rfl⟩,hle _,⟨⟨rfl,rfl,⟨rfl,rfl⟩,⟨rfl,rfl⟩,rfl,⟨rfl,rfl⟩,⟨rfl,rfl⟩,rfl,rfl,rfl,rfl⟩,AV.leS_refl _ _ _,rfl⟩⟩
    ·simp only[if_neg he] at hK hQ;simp only[errAV,if_neg he] at hK hQ ⊢;conv=>whnf
     refine hK _ _ ?_;clear hK hQ K;refine awp_seq2 fun K hK hQ=>?_
     conv=>whnf
     refine hK _ _ ?_;clear hK hQ K;conv=>whnf
     refine⟨_,_,hrs,?_⟩;conv=>whnf
     refine⟨_,_,q2,?_⟩;conv=>whnf
     refine⟨_,_,St.upd_same _ _ _,?_⟩;conv=>whnf
     exact⟨_,_,⟨rfl,rfl⟩,hle _,⟨⟨rfl,rfl,⟨rfl,rfl⟩,⟨rfl,rfl⟩,rfl,⟨rfl,rfl⟩,⟨rfl,rfl⟩,rfl,rfl,rfl,rfl⟩,AV.leS_refl _ _ _,rfl⟩⟩
   have n1:¬ w=kF:=of_decide_eq_false h
   conv=>whnf
   refine split_of (fun h=>?_) (fun h=>?_)
   ·have hh:w=kPol:=of_decide_eq_true h
    have hg:tabG w=some (polG):=by unfold tabG;rw[if_neg n0,if_neg n1,if_pos hh]
    have hf:=pol_ok (G:=G) hG ⟨_,hat3⟩ hw1 hv
    have hpw:parseW (w::l)=finG (polG l zeroV):=by unfold parseW;dsimp only;rw[hg]
    rw[hpw] at hK hQ;clear hpw hg;generalize polG l zeroV=r at *;obtain⟨e,l3,v3⟩:=r;dsimp only at hf;unfold finG at hK hQ;dsimp only at hK hQ;conv=>whnf
    refine hK _ _ ?_;clear hK hQ K;refine awp_seq2 fun K hK hQ=>?_
    conv=>whnf
    refine hK _ _ ?_;clear hK hQ K;refine awp_seq2 fun K hK hQ=>?_
    conv=>whnf
    refine hf.mono ?_;rintro o S' ⟨rfl,t3,hr⟩;have q2:=hr.le _ _ q20;have hle:=hz2 S' hr.le;have hrs:=hr.at_
    by_cases he:e=0
    ·simp only[if_pos he] at hK hQ;simp only[errAV,if_pos he];conv=>whnf
     refine hK _ _ ?_;clear hK hQ K;refine awp_seq2 fun K hK hQ=>?_
     conv=>whnf
     refine(rend_ok rb l3 _ S' hrs).mono ?_;rintro o T ⟨rfl,rfl⟩
     cases l3 with
     | nil=>
       simp only[if_true] at hK hQ ⊢;conv=>whnf
       refine hK _ _ ?_;clear hK hQ K;conv=>whnf
       refine⟨_,_,hrs,?_⟩;conv=>whnf
       refine⟨_,_,q2,?_⟩;conv=>whnf
       refine⟨_,_,St.upd_same _ _ _,?_⟩;conv=>whnf
       exact⟨_,_,⟨rfl,rfl⟩,hle _,⟨⟨rfl,rfl,⟨rfl,rfl⟩,⟨rfl,rfl⟩,rfl,⟨rfl,rfl⟩,⟨rfl,rfl⟩,rfl,rfl,rfl,rfl⟩,rfl,rfl⟩⟩
     | cons x l3=>
       simp only[reduceCtorEq,if_false] at hK hQ ⊢;conv=>whnf
       refine hK _ _ ?_;clear hK hQ K;conv=>whnf
       refine⟨_,_,hrs,?_⟩;conv=>whnf
       refine⟨_,_,q2,?_⟩;conv=>whnf
       refine⟨_,_,St.upd_same _ _ _,?_⟩;conv=>whnf
       exact⟨_,_,⟨rfl,rfl⟩,hle _,⟨⟨rfl,rfl,⟨rfl,rfl⟩,⟨rfl,rfl⟩,rfl,⟨rfl,rfl⟩,⟨rfl,rfl⟩,rfl,rfl,rfl,rfl⟩,AV.leS_refl _ _ _,rfl⟩⟩
    ·simp only[if_neg he] at hK hQ;simp only[errAV,if_neg he] at hK hQ ⊢;conv=>whnf
     refine hK _ _ ?_;clear hK hQ K;refine awp_seq2 fun K hK hQ=>?_
     conv=>whnf
     refine hK _ _ ?_;clear hK hQ K;conv=>whnf
     refine⟨_,_,hrs,?_⟩;conv=>whnf
     refine⟨_,_,q2,?_⟩;conv=>whnf
     refine⟨_,_,St.upd_same _ _ _,?_⟩;conv=>whnf
     exact⟨_,_,⟨rfl,rfl⟩,hle _,⟨⟨rfl,rfl,⟨rfl,rfl⟩,⟨rfl,rfl⟩,rfl,⟨rfl,rfl⟩,⟨rfl,rfl⟩,rfl,rfl,rfl,rfl⟩,AV.leS_refl _ _ _,rfl⟩⟩
   have n2:¬ w=kPol:=of_decide_eq_false h
   conv=>whnf
   refine split_of (fun h=>?_) (fun h=>?_)
   ·have hh:w=kRup:=of_decide_eq_true h
    have hg:tabG w=some (rupG):=by unfold tabG;rw[if_neg n0,if_neg n1,if_neg n2,if_pos hh]
    have hf:=rup_ok (G:=G) hG ⟨_,hat3⟩ hw1 hv
    have hpw:parseW (w::l)=finG (rupG l zeroV):=by unfold parseW;dsimp only;rw[hg]
    rw[hpw] at hK hQ;clear hpw hg;generalize rupG l zeroV=r at *;obtain⟨e,l3,v3⟩:=r;dsimp only at hf;unfold finG at hK hQ;dsimp only at hK hQ;conv=>whnf
    refine hK _ _ ?_;clear hK hQ K;refine awp_seq2 fun K hK hQ=>?_
    conv=>whnf
    refine hK _ _ ?_;clear hK hQ K;refine awp_seq2 fun K hK hQ=>?_
    conv=>whnf
    refine hf.mono ?_;rintro o S' ⟨rfl,t3,hr⟩;have q2:=hr.le _ _ q20;have hle:=hz2 S' hr.le;have hrs:=hr.at_
    by_cases he:e=0
    ·simp only[if_pos he] at hK hQ;simp only[errAV,if_pos he];conv=>whnf
     refine hK _ _ ?_;clear hK hQ K;refine awp_seq2 fun K hK hQ=>?_
     conv=>whnf
     refine(rend_ok rb l3 _ S' hrs).mono ?_;rintro o T ⟨rfl,rfl⟩
     cases l3 with
     | nil=>
       simp only[if_true] at hK hQ ⊢;conv=>whnf
       refine hK _ _ ?_;clear hK hQ K;conv=>whnf
       refine⟨_,_,hrs,?_⟩;conv=>whnf
       refine⟨_,_,q2,?_⟩;conv=>whnf
       refine⟨_,_,St.upd_same _ _ _,?_⟩;conv=>whnf
       exact⟨_,_,⟨rfl,rfl⟩,hle _,⟨⟨rfl,rfl,⟨rfl,rfl⟩,⟨rfl,rfl⟩,rfl,⟨rfl,rfl⟩,⟨rfl,rfl⟩,rfl,rfl,rfl,rfl⟩,rfl,rfl⟩⟩
     | cons x l3=>
       simp only[reduceCtorEq,if_false] at hK hQ ⊢;conv=>whnf
       refine hK _ _ ?_;clear hK hQ K;conv=>whnf
       refine⟨_,_,hrs,?_⟩;conv=>whnf
       refine⟨_,_,q2,?_⟩;conv=>whnf
       refine⟨_,_,St.upd_same _ _ _,?_⟩;conv=>whnf
       exact⟨_,_,⟨rfl,rfl⟩,hle _,⟨⟨rfl,rfl,⟨rfl,rfl⟩,⟨rfl,rfl⟩,rfl,⟨rfl,rfl⟩,⟨rfl,rfl⟩,rfl,rfl,rfl,rfl⟩,AV.leS_refl _ _ _,rfl⟩⟩
    ·simp only[if_neg he] at hK hQ;simp only[errAV,if_neg he] at hK hQ ⊢;conv=>whnf
     refine hK _ _ ?_;clear hK hQ K;refine awp_seq2 fun K hK hQ=>?_
     conv=>whnf
     refine hK _ _ ?_;clear hK hQ K;conv=>whnf
     refine⟨_,_,hrs,?_⟩;conv=>whnf
     refine⟨_,_,q2,?_⟩;conv=>whnf
     refine⟨_,_,St.upd_same _ _ _,?_⟩;conv=>whnf
     exact⟨_,_,⟨rfl,rfl⟩,hle _,⟨⟨rfl,rfl,⟨rfl,rfl⟩,⟨rfl,rfl⟩,rfl,⟨rfl,rfl⟩,⟨rfl,rfl⟩,rfl,rfl,rfl,rfl⟩,AV.leS_refl _ _ _,rfl⟩⟩
   have n3:¬ w=kRup:=of_decide_eq_false h
   conv=>whnf
   refine split_of (fun h=>?_) (fun h=>?_)
   ·have hh:w=kSoli:=of_decide_eq_true h
    have hg:tabG w=some (solG 5):=by unfold tabG;rw[if_neg n0,if_neg n1,if_neg n2,if_neg n3,if_pos hh]
    have hf:=soli_ok (G:=G) hG ⟨_,hat3⟩ hw1 hv
    have hpw:parseW (w::l)=finG (solG 5 l zeroV):=by unfold parseW;dsimp only;rw[hg]
    rw[hpw] at hK hQ;clear hpw hg;generalize solG 5 l zeroV=r at *;obtain⟨e,l3,v3⟩:=r;dsimp only at hf;unfold finG at hK hQ;dsimp only at hK hQ;conv=>whnf
    refine hK _ _ ?_;clear hK hQ K;refine awp_seq2 fun K hK hQ=>?_
    conv=>whnf
    refine hK _ _ ?_;clear hK hQ K;refine awp_seq2 fun K hK hQ=>?_
    conv=>whnf
    refine hf.mono ?_;rintro o S' ⟨rfl,t3,hr⟩;have q2:=hr.le _ _ q20;have hle:=hz2 S' hr.le;have hrs:=hr.at_
    by_cases he:e=0
    ·simp only[if_pos he] at hK hQ;simp only[errAV,if_pos he];conv=>whnf
     refine hK _ _ ?_;clear hK hQ K;refine awp_seq2 fun K hK hQ=>?_
     conv=>whnf
     refine(rend_ok rb l3 _ S' hrs).mono ?_;rintro o T ⟨rfl,rfl⟩
     cases l3 with
     | nil=>
       simp only[if_true] at hK hQ ⊢;conv=>whnf
       refine hK _ _ ?_;clear hK hQ K;conv=>whnf
       refine⟨_,_,hrs,?_⟩;conv=>whnf
       refine⟨_,_,q2,?_⟩;conv=>whnf
       refine⟨_,_,St.upd_same _ _ _,?_⟩;conv=>whnf
       exact⟨_,_,⟨rfl,rfl⟩,hle _,⟨⟨rfl,rfl,⟨rfl,rfl⟩,⟨rfl,rfl⟩,rfl,⟨rfl,rfl⟩,⟨rfl,rfl⟩,rfl,rfl,rfl,rfl⟩,rfl,rfl⟩⟩
     | cons x l3=>
       simp only[reduceCtorEq,if_false] at hK hQ ⊢;conv=>whnf
       refine hK _ _ ?_;clear hK hQ K;conv=>whnf
       refine⟨_,_,hrs,?_⟩;conv=>whnf
       refine⟨_,_,q2,?_⟩;conv=>whnf
       refine⟨_,_,St.upd_same _ _ _,?_⟩;conv=>whnf
       exact⟨_,_,⟨rfl,rfl⟩,hle _,⟨⟨rfl,rfl,⟨rfl,rfl⟩,⟨rfl,rfl⟩,rfl,⟨rfl,rfl⟩,⟨rfl,rfl⟩,rfl,rfl,rfl,rfl⟩,AV.leS_refl _ _ _,rfl⟩⟩
    ·simp only[if_neg he] at hK hQ;simp only[errAV,if_neg he] at hK hQ ⊢;conv=>whnf
     refine hK _ _ ?_;clear hK hQ K;refine awp_seq2 fun K hK hQ=>?_
     conv=>whnf
     refine hK _ _ ?_;clear hK hQ K;conv=>whnf
     refine⟨_,_,hrs,?_⟩;conv=>whnf
     refine⟨_,_,q2,?_⟩;conv=>whnf
     refine⟨_,_,St.upd_same _ _ _,?_⟩;conv=>whnf
     exact⟨_,_,⟨rfl,rfl⟩,hle _,⟨⟨rfl,rfl,⟨rfl,rfl⟩,⟨rfl,rfl⟩,rfl,⟨rfl,rfl⟩,⟨rfl,rfl⟩,rfl,rfl,rfl,rfl⟩,AV.leS_refl _ _ _,rfl⟩⟩
   have n4:¬ w=kSoli:=of_decide_eq_false h
   conv=>whnf
   refine split_of (fun h=>?_) (fun h=>?_)
   ·have hh:w=kSolx:=of_decide_eq_true h
    have hg:tabG w=some (solG 11):=by unfold tabG;rw[if_neg n0,if_neg n1,if_neg n2,if_neg n3,if_neg n4,if_pos hh]
    have hf:=solx_ok (G:=G) hG ⟨_,hat3⟩ hw1 hv
    have hpw:parseW (w::l)=finG (solG 11 l zeroV):=by unfold parseW;dsimp only;rw[hg]
    rw[hpw] at hK hQ;clear hpw hg;generalize solG 11 l zeroV=r at *;obtain⟨e,l3,v3⟩:=r;dsimp only at hf;unfold finG at hK hQ;dsimp only at hK hQ;conv=>whnf
    refine hK _ _ ?_;clear hK hQ K;refine awp_seq2 fun K hK hQ=>?_
    conv=>whnf
    refine hK _ _ ?_;clear hK hQ K;refine awp_seq2 fun K hK hQ=>?_
    conv=>whnf
    refine hf.mono ?_;rintro o S' ⟨rfl,t3,hr⟩;have q2:=hr.le _ _ q20;have hle:=hz2 S' hr.le;have hrs:=hr.at_
    by_cases he:e=0
    ·simp only[if_pos he] at hK hQ;simp only[errAV,if_pos he];conv=>whnf
     refine hK _ _ ?_;clear hK hQ K;refine awp_seq2 fun K hK hQ=>?_
     conv=>whnf
     refine(rend_ok rb l3 _ S' hrs).mono ?_;rintro o T ⟨rfl,rfl⟩
     cases l3 with
     | nil=>
       simp only[if_true] at hK hQ ⊢;conv=>whnf
       refine hK _ _ ?_;clear hK hQ K;conv=>whnf
       refine⟨_,_,hrs,?_⟩;conv=>whnf
       refine⟨_,_,q2,?_⟩;conv=>whnf
       refine⟨_,_,St.upd_same _ _ _,?_⟩;conv=>whnf
       exact⟨_,_,⟨rfl,rfl⟩,hle _,⟨⟨rfl,rfl,⟨rfl,rfl⟩,⟨rfl,rfl⟩,rfl,⟨rfl,rfl⟩,⟨rfl,rfl⟩,rfl,rfl,rfl,rfl⟩,rfl,rfl⟩⟩
     | cons x l3=>
       simp only[reduceCtorEq,if_false] at hK hQ ⊢;conv=>whnf
       refine hK _ _ ?_;clear hK hQ K;conv=>whnf
       refine⟨_,_,hrs,?_⟩;conv=>whnf
       refine⟨_,_,q2,?_⟩;conv=>whnf
       refine⟨_,_,St.upd_same _ _ _,?_⟩;conv=>whnf
       exact⟨_,_,⟨rfl,rfl⟩,hle _,⟨⟨rfl,rfl,⟨rfl,rfl⟩,⟨rfl,rfl⟩,rfl,⟨rfl,rfl⟩,⟨rfl,rfl⟩,rfl,rfl,rfl,rfl⟩,AV.leS_refl _ _ _,rfl⟩⟩
    ·simp only[if_neg he] at hK hQ;simp only[errAV,if_neg he] at hK hQ ⊢;conv=>whnf
     refine hK _ _ ?_;clear hK hQ K;refine awp_seq2 fun K hK hQ=>?_
     conv=>whnf
     refine hK _ _ ?_;clear hK hQ K;conv=>whnf
     refine⟨_,_,hrs,?_⟩;conv=>whnf
     refine⟨_,_,q2,?_⟩;conv=>whnf
     refine⟨_,_,St.upd_same _ _ _,?_⟩;conv=>whnf
     exact⟨_,_,⟨rfl,rfl⟩,hle _,⟨⟨rfl,rfl,⟨rfl,rfl⟩,⟨rfl,rfl⟩,rfl,⟨rfl,rfl⟩,⟨rfl,rfl⟩,rfl,rfl,rfl,rfl⟩,AV.leS_refl _ _ _,rfl⟩⟩
   have n5:¬ w=kSolx:=of_decide_eq_false h
   conv=>whnf
   refine split_of (fun h=>?_) (fun h=>?_)
   ·have hh:w=kE:=of_decide_eq_true h
    have hg:tabG w=some (sameG):=by unfold tabG;rw[if_neg n0,if_neg n1,if_neg n2,if_neg n3,if_neg n4,if_neg n5,if_pos hh]
    have hf:=same_ok (G:=G) hG ⟨_,hat3⟩ hw1 hv
    have hpw:parseW (w::l)=finG (sameG l zeroV):=by unfold parseW;dsimp only;rw[hg]
    rw[hpw] at hK hQ;clear hpw hg;generalize sameG l zeroV=r at *;obtain⟨e,l3,v3⟩:=r;dsimp only at hf;unfold finG at hK hQ;dsimp only at hK hQ;conv=>whnf
    refine hK _ _ ?_;clear hK hQ K;refine awp_seq2 fun K hK hQ=>?_
    conv=>whnf
    refine hK _ _ ?_;clear hK hQ K;refine awp_seq2 fun K hK hQ=>?_
    conv=>whnf
    refine hf.mono ?_;rintro o S' ⟨rfl,t3,hr⟩;have q2:=hr.le _ _ q20;have hle:=hz2 S' hr.le;have hrs:=hr.at_
    by_cases he:e=0
    ·simp only[if_pos he] at hK hQ;simp only[errAV,if_pos he];conv=>whnf
     refine hK _ _ ?_;clear hK hQ K;refine awp_seq2 fun K hK hQ=>?_
     conv=>whnf
     refine(rend_ok rb l3 _ S' hrs).mono ?_;rintro o T ⟨rfl,rfl⟩
     cases l3 with
     | nil=>
       simp only[if_true] at hK hQ ⊢;conv=>whnf
       refine hK _ _ ?_;clear hK hQ K;conv=>whnf
       refine⟨_,_,hrs,?_⟩;conv=>whnf
       refine⟨_,_,q2,?_⟩;conv=>whnf
       refine⟨_,_,St.upd_same _ _ _,?_⟩;conv=>whnf
       exact⟨_,_,⟨rfl,rfl⟩,hle _,⟨⟨rfl,rfl,⟨rfl,rfl⟩,⟨rfl,rfl⟩,rfl,⟨rfl,rfl⟩,⟨rfl,rfl⟩,rfl,rfl,rfl,rfl⟩,rfl,rfl⟩⟩
     | cons x l3=>
       simp only[reduceCtorEq,if_false] at hK hQ ⊢;conv=>whnf
       refine hK _ _ ?_;clear hK hQ K;conv=>whnf
       refine⟨_,_,hrs,?_⟩;conv=>whnf
       refine⟨_,_,q2,?_⟩;conv=>whnf
       refine⟨_,_,St.upd_same _ _ _,?_⟩;conv=>whnf
       exact⟨_,_,⟨rfl,rfl⟩,hle _,⟨⟨rfl,rfl,⟨rfl,rfl⟩,⟨rfl,rfl⟩,rfl,⟨rfl,rfl⟩,⟨rfl,rfl⟩,rfl,rfl,rfl,rfl⟩,AV.leS_refl _ _ _,rfl⟩⟩
    ·simp only[if_neg he] at hK hQ;simp only[errAV,if_neg he] at hK hQ ⊢;conv=>whnf
     refine hK _ _ ?_;clear hK hQ K;refine awp_seq2 fun K hK hQ=>?_
     conv=>whnf
     refine hK _ _ ?_;clear hK hQ K;conv=>whnf
     refine⟨_,_,hrs,?_⟩;conv=>whnf
     refine⟨_,_,q2,?_⟩;conv=>whnf
     refine⟨_,_,St.upd_same _ _ _,?_⟩;conv=>whnf
     exact⟨_,_,⟨rfl,rfl⟩,hle _,⟨⟨rfl,rfl,⟨rfl,rfl⟩,⟨rfl,rfl⟩,rfl,⟨rfl,rfl⟩,⟨rfl,rfl⟩,rfl,rfl,rfl,rfl⟩,AV.leS_refl _ _ _,rfl⟩⟩
   have n6:¬ w=kE:=of_decide_eq_false h
   conv=>whnf
   refine split_of (fun h=>?_) (fun h=>?_)
   ·have hh:w=kDel:=of_decide_eq_true h
    have hg:tabG w=some (delG):=by unfold tabG;rw[if_neg n0,if_neg n1,if_neg n2,if_neg n3,if_neg n4,if_neg n5,if_neg n6,if_pos hh]
    have hf:=del_ok (G:=G) ⟨_,hat3⟩ hw1 hv
    have hpw:parseW (w::l)=finG (delG l zeroV):=by unfold parseW;dsimp only;rw[hg]
    rw[hpw] at hK hQ;clear hpw hg;generalize delG l zeroV=r at *;obtain⟨e,l3,v3⟩:=r;dsimp only at hf;unfold finG at hK hQ;dsimp only at hK hQ;conv=>whnf
    refine hK _ _ ?_;clear hK hQ K;refine awp_seq2 fun K hK hQ=>?_
    conv=>whnf
    refine hK _ _ ?_;clear hK hQ K;refine awp_seq2 fun K hK hQ=>?_
    conv=>whnf
    refine hf.mono ?_;rintro o S' ⟨rfl,t3,hr⟩;have q2:=hr.le _ _ q20;have hle:=hz2 S' hr.le;have hrs:=hr.at_
    by_cases he:e=0
    ·simp only[if_pos he] at hK hQ;simp only[errAV,if_pos he];conv=>whnf
     refine hK _ _ ?_;clear hK hQ K;refine awp_seq2 fun K hK hQ=>?_
     conv=>whnf
     refine(rend_ok rb l3 _ S' hrs).mono ?_;rintro o T ⟨rfl,rfl⟩
     cases l3 with
     | nil=>
       simp only[if_true] at hK hQ ⊢;conv=>whnf
       refine hK _ _ ?_;clear hK hQ K;conv=>whnf
       refine⟨_,_,hrs,?_⟩;conv=>whnf
       refine⟨_,_,q2,?_⟩;conv=>whnf
       refine⟨_,_,St.upd_same _ _ _,?_⟩;conv=>whnf
       exact⟨_,_,⟨rfl,rfl⟩,hle _,⟨⟨rfl,rfl,⟨rfl,rfl⟩,⟨rfl,rfl⟩,rfl,⟨rfl,rfl⟩,⟨rfl,rfl⟩,rfl,rfl,rfl,rfl⟩,rfl,rfl⟩⟩
     | cons x l3=>
       simp only[reduceCtorEq,if_false] at hK hQ ⊢;conv=>whnf
       refine hK _ _ ?_;clear hK hQ K;conv=>whnf
       refine⟨_,_,hrs,?_⟩;conv=>whnf
       refine⟨_,_,q2,?_⟩;conv=>whnf
       refine⟨_,_,St.upd_same _ _ _,?_⟩;conv=>whnf
       exact⟨_,_,⟨rfl,rfl⟩,hle _,⟨⟨rfl,rfl,⟨rfl,rfl⟩,⟨rfl,rfl⟩,rfl,⟨rfl,rfl⟩,⟨rfl,rfl⟩,rfl,rfl,rfl,rfl⟩,AV.leS_refl _ _ _,rfl⟩⟩
    ·simp only[if_neg he] at hK hQ;simp only[errAV,if_neg he] at hK hQ ⊢;conv=>whnf
     refine hK _ _ ?_;clear hK hQ K;refine awp_seq2 fun K hK hQ=>?_
     conv=>whnf
     refine hK _ _ ?_;clear hK hQ K;conv=>whnf
     refine⟨_,_,hrs,?_⟩;conv=>whnf
     refine⟨_,_,q2,?_⟩;conv=>whnf
     refine⟨_,_,St.upd_same _ _ _,?_⟩;conv=>whnf
     exact⟨_,_,⟨rfl,rfl⟩,hle _,⟨⟨rfl,rfl,⟨rfl,rfl⟩,⟨rfl,rfl⟩,rfl,⟨rfl,rfl⟩,⟨rfl,rfl⟩,rfl,rfl,rfl,rfl⟩,AV.leS_refl _ _ _,rfl⟩⟩
   have n7:¬ w=kDel:=of_decide_eq_false h
   conv=>whnf
   refine split_of (fun h=>?_) (fun h=>?_)
   ·have hh:w=kStar:=of_decide_eq_true h
    have hg:tabG w=some (noteG):=by unfold tabG;rw[if_neg n0,if_neg n1,if_neg n2,if_neg n3,if_neg n4,if_neg n5,if_neg n6,if_neg n7,if_pos hh]
    have hf:=note_ok (G:=G) ⟨_,hat3⟩
    have hpw:parseW (w::l)=finG (noteG l zeroV):=by unfold parseW;dsimp only;rw[hg]
    rw[hpw] at hK hQ;clear hpw hg;generalize noteG l zeroV=r at *;obtain⟨e,l3,v3⟩:=r;dsimp only at hf;unfold finG at hK hQ;dsimp only at hK hQ;conv=>whnf
    refine hK _ _ ?_;clear hK hQ K;refine awp_seq2 fun K hK hQ=>?_
    conv=>whnf
    refine hK _ _ ?_;clear hK hQ K;refine awp_seq2 fun K hK hQ=>?_
    conv=>whnf
    refine hf.mono ?_;rintro o S' ⟨rfl,t3,hr⟩;have q2:=hr.le _ _ q20;have hle:=hz2 S' hr.le;have hrs:=hr.at_
    by_cases he:e=0
    ·simp only[if_pos he] at hK hQ;simp only[errAV,if_pos he];conv=>whnf
     refine hK _ _ ?_;clear hK hQ K;refine awp_seq2 fun K hK hQ=>?_
     conv=>whnf
     refine(rend_ok rb l3 _ S' hrs).mono ?_;rintro o T ⟨rfl,rfl⟩
     cases l3 with
     | nil=>
       simp only[if_true] at hK hQ ⊢;conv=>whnf
       refine hK _ _ ?_;clear hK hQ K;conv=>whnf
       refine⟨_,_,hrs,?_⟩;conv=>whnf
       refine⟨_,_,q2,?_⟩;conv=>whnf
       refine⟨_,_,St.upd_same _ _ _,?_⟩;conv=>whnf
       exact⟨_,_,⟨rfl,rfl⟩,hle _,⟨⟨rfl,rfl,⟨rfl,rfl⟩,⟨rfl,rfl⟩,rfl,⟨rfl,rfl⟩,⟨rfl,rfl⟩,rfl,rfl,rfl,rfl⟩,rfl,rfl⟩⟩
     | cons x l3=>
       simp only[reduceCtorEq,if_false] at hK hQ ⊢;conv=>whnf
       refine hK _ _ ?_;clear hK hQ K;conv=>whnf
       refine⟨_,_,hrs,?_⟩;conv=>whnf
       refine⟨_,_,q2,?_⟩;conv=>whnf
       refine⟨_,_,St.upd_same _ _ _,?_⟩;conv=>whnf
       exact⟨_,_,⟨rfl,rfl⟩,hle _,⟨⟨rfl,rfl,⟨rfl,rfl⟩,⟨rfl,rfl⟩,rfl,⟨rfl,rfl⟩,⟨rfl,rfl⟩,rfl,rfl,rfl,rfl⟩,AV.leS_refl _ _ _,rfl⟩⟩
    ·simp only[if_neg he] at hK hQ;simp only[errAV,if_neg he] at hK hQ ⊢;conv=>whnf
     refine hK _ _ ?_;clear hK hQ K;refine awp_seq2 fun K hK hQ=>?_
     conv=>whnf
     refine hK _ _ ?_;clear hK hQ K;conv=>whnf
     refine⟨_,_,hrs,?_⟩;conv=>whnf
     refine⟨_,_,q2,?_⟩;conv=>whnf
     refine⟨_,_,St.upd_same _ _ _,?_⟩;conv=>whnf
     exact⟨_,_,⟨rfl,rfl⟩,hle _,⟨⟨rfl,rfl,⟨rfl,rfl⟩,⟨rfl,rfl⟩,rfl,⟨rfl,rfl⟩,⟨rfl,rfl⟩,rfl,rfl,rfl,rfl⟩,AV.leS_refl _ _ _,rfl⟩⟩
   have n8:¬ w=kStar:=of_decide_eq_false h
   conv=>whnf
   refine split_of (fun h=>?_) (fun h=>?_)
   ·have hh:w=kOut:=of_decide_eq_true h
    have hg:tabG w=some (fixG 8 outputWords):=by unfold tabG;rw[if_neg n0,if_neg n1,if_neg n2,if_neg n3,if_neg n4,if_neg n5,if_neg n6,if_neg n7,if_neg n8,if_pos hh]
    have hf:=output_ok (G:=G) ⟨_,hat3⟩
    have hpw:parseW (w::l)=finG (fixG 8 outputWords l zeroV):=by unfold parseW;dsimp only;rw[hg]
    rw[hpw] at hK hQ;clear hpw hg;generalize fixG 8 outputWords l zeroV=r at *;obtain⟨e,l3,v3⟩:=r;dsimp only at hf;unfold finG at hK hQ;dsimp only at hK hQ;conv=>whnf
    refine hK _ _ ?_;clear hK hQ K;refine awp_seq2 fun K hK hQ=>?_
    conv=>whnf
    refine hK _ _ ?_;clear hK hQ K;refine awp_seq2 fun K hK hQ=>?_
    conv=>whnf
    refine hf.mono ?_;rintro o S' ⟨rfl,t3,hr⟩;have q2:=hr.le _ _ q20;have hle:=hz2 S' hr.le;have hrs:=hr.at_
    by_cases he:e=0
    ·simp only[if_pos he] at hK hQ;simp only[errAV,if_pos he];conv=>whnf
     refine hK _ _ ?_;clear hK hQ K;refine awp_seq2 fun K hK hQ=>?_
     conv=>whnf
     refine(rend_ok rb l3 _ S' hrs).mono ?_;rintro o T ⟨rfl,rfl⟩
     cases l3 with
     | nil=>
       simp only[if_true] at hK hQ ⊢;conv=>whnf
       refine hK _ _ ?_;clear hK hQ K;conv=>whnf
       refine⟨_,_,hrs,?_⟩;conv=>whnf
       refine⟨_,_,q2,?_⟩;conv=>whnf
       refine⟨_,_,St.upd_same _ _ _,?_⟩;conv=>whnf
       exact⟨_,_,⟨rfl,rfl⟩,hle _,⟨⟨rfl,rfl,⟨rfl,rfl⟩,⟨rfl,rfl⟩,rfl,⟨rfl,rfl⟩,⟨rfl,rfl⟩,rfl,rfl,rfl,rfl⟩,rfl,rfl⟩⟩
     | cons x l3=>
       simp only[reduceCtorEq,if_false] at hK hQ ⊢;conv=>whnf
       refine hK _ _ ?_;clear hK hQ K;conv=>whnf
       refine⟨_,_,hrs,?_⟩;conv=>whnf
       refine⟨_,_,q2,?_⟩;conv=>whnf
       refine⟨_,_,St.upd_same _ _ _,?_⟩;conv=>whnf
       exact⟨_,_,⟨rfl,rfl⟩,hle _,⟨⟨rfl,rfl,⟨rfl,rfl⟩,⟨rfl,rfl⟩,rfl,⟨rfl,rfl⟩,⟨rfl,rfl⟩,rfl,rfl,rfl,rfl⟩,AV.leS_refl _ _ _,rfl⟩⟩
    ·simp only[if_neg he] at hK hQ;simp only[errAV,if_neg he] at hK hQ ⊢;conv=>whnf
     refine hK _ _ ?_;clear hK hQ K;refine awp_seq2 fun K hK hQ=>?_
     conv=>whnf
     refine hK _ _ ?_;clear hK hQ K;conv=>whnf
     refine⟨_,_,hrs,?_⟩;conv=>whnf
     refine⟨_,_,q2,?_⟩;conv=>whnf
     refine⟨_,_,St.upd_same _ _ _,?_⟩;conv=>whnf
     exact⟨_,_,⟨rfl,rfl⟩,hle _,⟨⟨rfl,rfl,⟨rfl,rfl⟩,⟨rfl,rfl⟩,rfl,⟨rfl,rfl⟩,⟨rfl,rfl⟩,rfl,rfl,rfl,rfl⟩,AV.leS_refl _ _ _,rfl⟩⟩
   have n9:¬ w=kOut:=of_decide_eq_false h
   conv=>whnf
   refine split_of (fun h=>?_) (fun h=>?_)
   ·have hh:w=kConc:=of_decide_eq_true h
    have hg:tabG w=some (conclG):=by unfold tabG;rw[if_neg n0,if_neg n1,if_neg n2,if_neg n3,if_neg n4,if_neg n5,if_neg n6,if_neg n7,if_neg n8,if_neg n9,if_pos hh]
    have hf:=conclusion_ok (G:=G) ⟨_,hat3⟩ hw1
    have hpw:parseW (w::l)=finG (conclG l zeroV):=by unfold parseW;dsimp only;rw[hg]
    rw[hpw] at hK hQ;clear hpw hg;generalize conclG l zeroV=r at *;obtain⟨e,l3,v3⟩:=r;dsimp only at hf;unfold finG at hK hQ;dsimp only at hK hQ;conv=>whnf
    refine hK _ _ ?_;clear hK hQ K;refine awp_seq2 fun K hK hQ=>?_
    conv=>whnf
    refine hK _ _ ?_;clear hK hQ K;refine awp_seq2 fun K hK hQ=>?_
    conv=>whnf
    refine hf.mono ?_;rintro o S' ⟨rfl,t3,hr⟩;have q2:=hr.le _ _ q20;have hle:=hz2 S' hr.le;have hrs:=hr.at_
    by_cases he:e=0
    ·simp only[if_pos he] at hK hQ;simp only[errAV,if_pos he];conv=>whnf
     refine hK _ _ ?_;clear hK hQ K;refine awp_seq2 fun K hK hQ=>?_
     conv=>whnf
     refine(rend_ok rb l3 _ S' hrs).mono ?_;rintro o T ⟨rfl,rfl⟩
     cases l3 with
     | nil=>
       simp only[if_true] at hK hQ ⊢;conv=>whnf
       refine hK _ _ ?_;clear hK hQ K;conv=>whnf
       refine⟨_,_,hrs,?_⟩;conv=>whnf
       refine⟨_,_,q2,?_⟩;conv=>whnf
       refine⟨_,_,St.upd_same _ _ _,?_⟩;conv=>whnf
       exact⟨_,_,⟨rfl,rfl⟩,hle _,⟨⟨rfl,rfl,⟨rfl,rfl⟩,⟨rfl,rfl⟩,rfl,⟨rfl,rfl⟩,⟨rfl,rfl⟩,rfl,rfl,rfl,rfl⟩,rfl,rfl⟩⟩
     | cons x l3=>
       simp only[reduceCtorEq,if_false] at hK hQ ⊢;conv=>whnf
       refine hK _ _ ?_;clear hK hQ K;conv=>whnf
       refine⟨_,_,hrs,?_⟩;conv=>whnf
       refine⟨_,_,q2,?_⟩;conv=>whnf
       refine⟨_,_,St.upd_same _ _ _,?_⟩;conv=>whnf
       exact⟨_,_,⟨rfl,rfl⟩,hle _,⟨⟨rfl,rfl,⟨rfl,rfl⟩,⟨rfl,rfl⟩,rfl,⟨rfl,rfl⟩,⟨rfl,rfl⟩,rfl,rfl,rfl,rfl⟩,AV.leS_refl _ _ _,rfl⟩⟩
    ·simp only[if_neg he] at hK hQ;simp only[errAV,if_neg he] at hK hQ ⊢;conv=>whnf
     refine hK _ _ ?_;clear hK hQ K;refine awp_seq2 fun K hK hQ=>?_
     conv=>whnf
     refine hK _ _ ?_;clear hK hQ K;conv=>whnf
     refine⟨_,_,hrs,?_⟩;conv=>whnf
     refine⟨_,_,q2,?_⟩;conv=>whnf
     refine⟨_,_,St.upd_same _ _ _,?_⟩;conv=>whnf
     exact⟨_,_,⟨rfl,rfl⟩,hle _,⟨⟨rfl,rfl,⟨rfl,rfl⟩,⟨rfl,rfl⟩,rfl,⟨rfl,rfl⟩,⟨rfl,rfl⟩,rfl,rfl,rfl,rfl⟩,AV.leS_refl _ _ _,rfl⟩⟩
   have n10:¬ w=kConc:=of_decide_eq_false h
   conv=>whnf
   refine split_of (fun h=>?_) (fun h=>?_)
   ·have hh:w=kEnd:=of_decide_eq_true h
    have hg:tabG w=some (fixG 10 lastWords):=by unfold tabG;rw[if_neg n0,if_neg n1,if_neg n2,if_neg n3,if_neg n4,if_neg n5,if_neg n6,if_neg n7,if_neg n8,if_neg n9,if_neg n10,if_pos hh]
    have hf:=last_ok (G:=G) ⟨_,hat3⟩
    have hpw:parseW (w::l)=finG (fixG 10 lastWords l zeroV):=by unfold parseW;dsimp only;rw[hg]
    rw[hpw] at hK hQ;clear hpw hg;generalize fixG 10 lastWords l zeroV=r at *;obtain⟨e,l3,v3⟩:=r;dsimp only at hf;unfold finG at hK hQ;dsimp only at hK hQ;conv=>whnf
    refine hK _ _ ?_;clear hK hQ K;refine awp_seq2 fun K hK hQ=>?_
    conv=>whnf
    refine hK _ _ ?_;clear hK hQ K;refine awp_seq2 fun K hK hQ=>?_
    conv=>whnf
    refine hf.mono ?_;rintro o S' ⟨rfl,t3,hr⟩;have q2:=hr.le _ _ q20;have hle:=hz2 S' hr.le;have hrs:=hr.at_
    by_cases he:e=0
    ·simp only[if_pos he] at hK hQ;simp only[errAV,if_pos he];conv=>whnf
     refine hK _ _ ?_;clear hK hQ K;refine awp_seq2 fun K hK hQ=>?_
     conv=>whnf
     refine(rend_ok rb l3 _ S' hrs).mono ?_;rintro o T ⟨rfl,rfl⟩
     cases l3 with
     | nil=>
       simp only[if_true] at hK hQ ⊢;conv=>whnf
       refine hK _ _ ?_;clear hK hQ K;conv=>whnf
       refine⟨_,_,hrs,?_⟩;conv=>whnf
       refine⟨_,_,q2,?_⟩;conv=>whnf
       refine⟨_,_,St.upd_same _ _ _,?_⟩;conv=>whnf
       exact⟨_,_,⟨rfl,rfl⟩,hle _,⟨⟨rfl,rfl,⟨rfl,rfl⟩,⟨rfl,rfl⟩,rfl,⟨rfl,rfl⟩,⟨rfl,rfl⟩,rfl,rfl,rfl,rfl⟩,rfl,rfl⟩⟩
     | cons x l3=>
       simp only[reduceCtorEq,if_false] at hK hQ ⊢;conv=>whnf
       refine hK _ _ ?_;clear hK hQ K;conv=>whnf
       refine⟨_,_,hrs,?_⟩;conv=>whnf
       refine⟨_,_,q2,?_⟩;conv=>whnf
       refine⟨_,_,St.upd_same _ _ _,?_⟩;conv=>whnf
       exact⟨_,_,⟨rfl,rfl⟩,hle _,⟨⟨rfl,rfl,⟨rfl,rfl⟩,⟨rfl,rfl⟩,rfl,⟨rfl,rfl⟩,⟨rfl,rfl⟩,rfl,rfl,rfl,rfl⟩,AV.leS_refl _ _ _,rfl⟩⟩
    ·simp only[if_neg he] at hK hQ;simp only[errAV,if_neg he] at hK hQ ⊢;conv=>whnf
     refine hK _ _ ?_;clear hK hQ K;refine awp_seq2 fun K hK hQ=>?_
     conv=>whnf
     refine hK _ _ ?_;clear hK hQ K;conv=>whnf
     refine⟨_,_,hrs,?_⟩;conv=>whnf
     refine⟨_,_,q2,?_⟩;conv=>whnf
     refine⟨_,_,St.upd_same _ _ _,?_⟩;conv=>whnf
     exact⟨_,_,⟨rfl,rfl⟩,hle _,⟨⟨rfl,rfl,⟨rfl,rfl⟩,⟨rfl,rfl⟩,rfl,⟨rfl,rfl⟩,⟨rfl,rfl⟩,rfl,rfl,rfl,rfl⟩,AV.leS_refl _ _ _,rfl⟩⟩
   have n11:¬ w=kEnd:=of_decide_eq_false h
   conv=>whnf
   have hg:tabG w=none:=by unfold tabG;rw[if_neg n0,if_neg n1,if_neg n2,if_neg n3,if_neg n4,if_neg n5,if_neg n6,if_neg n7,if_neg n8,if_neg n9,if_neg n10,if_neg n11]
   have hpw:parseW (w::l)=(zeroV,80):=by unfold parseW;dsimp only;rw[hg]
   rw[hpw] at hK hQ;have q2:=hat3.le _ _ q20;have hle:=hz2 S2 hat3.le;refine hK _ _ ?_;clear hK;refine awp_seq2 fun K hK hQ'=>?_
   conv=>whnf
   refine(fail_ok 80 _).mono ?_;rintro o S' ⟨rfl,rfl⟩;conv=>whnf
   refine⟨_,_,q2,?_⟩;conv=>whnf
   refine hQ' _ _ _ (by simp) ?_
   conv=>whnf
   refine⟨_,_,St.upd_same _ _ _,?_⟩;conv=>whnf
   exact⟨_,_,⟨rfl,rfl⟩,hle _,⟨⟨rfl,rfl,rfl,rfl,rfl,rfl,rfl,rfl,rfl,rfl,rfl⟩,AV.leS_refl _ _ _,rfl⟩⟩
open Go Go.RowKit Go.Extern.Stop Go.Stop Go.Extern
theorem as_nil(t:Value)(w:World) :
 Calls Tryz.prog 67 #[.nilIface,t] w fun e w'=>e=.returned (.bool false)∧w'=w:=by
 go_enter Tryz.func67,Tryz.ntmps67
 go_wp2
 go_ret
 exact⟨rfl,rfl⟩
theorem As.valueOf2(t:Addr)(w:World):(ReflectliteValue.unpack (.iface 121 (.pointer (some t)))).run Tryz.prog w
 = .ok (.agg #[.pointer (some ⟨7,121,none⟩),.pointer (some ⟨w.heap.size,0,none⟩),.int .u64 150]) (w.alloc (.cells #[.pointer (some t)] 121)):=by kernel_rfl
theorem As.type2(a : Addr)(w : World) : (ReflectliteValue.methodAny (ReflectliteValue.valueError "reflectlite.Value.Type" 0) (fun t _ _ _ => ReflectliteType.toType t) #[.agg #[.pointer (some ⟨7, 121, none⟩), .pointer (some a), .int .u64 150]]).run Tryz.prog w
 = .ok (.iface 196 (.agg #[.pointer (some ⟨7,121,none⟩)])) w:=by kernel_rfl
theorem As.methodKind(h : Value)(w : World) : (Go.method 422 196 (.agg #[h]) "Kind").run Tryz.prog w = .ok (226, h) w := by kernel_rfl
theorem As.kind2(w:World):((ReflectliteType.abiMethod fun t=>(fun a:Nat=>Value.int IntKind.u8 (a:Int)) <$> Rtype.kind t) #[.pointer (some ⟨7,121,none⟩)]).run Tryz.prog w=.ok (.int .u8 22) w:=by kernel_rfl
theorem As.kind1(w:World):((ReflectliteType.abiMethod fun t=>(fun a:Nat=>Value.int IntKind.u8 (a:Int)) <$> Rtype.kind t) #[.pointer (some ⟨7,90,none⟩)]).run Tryz.prog w=.ok (.int .u8 22) w:=by kernel_rfl
theorem As.rlm(z:Sem Value)(f:TypeId→Addr→Nat→Nat→Sem Value)(v:Value) :
 ReflectliteValue.method z f #[v]=(do match ← ReflectliteValue.parts v with | none=>z | some (t,a,fl)=>f t a fl (fl % 32)):=rfl
theorem As.parts2(a:Addr)(w:World):(ReflectliteValue.parts (.agg #[.pointer (some ⟨7,121,none⟩),.pointer (some a),.int .u64 150])).run Tryz.prog w=.ok (some (121,a,150)) w:=by kernel_rfl
theorem As.isNil2(a p:Addr)(W:World)(ha:W.cell? a=some (.pointer (some p))) :
 (ReflectliteValue.method (ReflectliteValue.valueError "reflectlite.Value.IsNil" 0) ReflectliteValue.isNil #[.agg #[.pointer (some ⟨7, 121, none⟩), .pointer (some a), .int .u64 150]]).run Tryz.prog W = .ok (.bool false) W := by
 rw[As.rlm];simp only[Sem.run_bind,As.parts2,Result.andThen]
 simp[ReflectliteValue.isNil,loadVar,isAgg,underlying,Tryz.underlying121,ha,Result.andThen]
theorem As.methodElem(h : Value)(w : World) : (Go.method 422 196 (.agg #[h]) "Elem").run Tryz.prog w = .ok (239, .agg #[h]) w := by kernel_rfl
theorem As.methodImplements(h : Value)(w : World) : (Go.method 422 196 (.agg #[h]) "Implements").run Tryz.prog w = .ok (240, .agg #[h]) w := by kernel_rfl
theorem As.methodAssignableTo(h : Value)(w : World) : (Go.method 422 196 (.agg #[h]) "AssignableTo").run Tryz.prog w = .ok (237, .agg #[h]) w := by kernel_rfl
theorem As.elem2(w:World):(ReflectliteType.method ReflectliteType.elem #[.agg #[.pointer (some ⟨7,121,none⟩)]]).run Tryz.prog w=.ok (.iface 196 (.agg #[.pointer (some ⟨7,90,none⟩)])) w:=by kernel_rfl
theorem As.implements1(w : World) : (ReflectliteType.relation "Implements" ReflectliteType.implements_ #[.agg #[.pointer (some ⟨7, 90, none⟩)], .iface 196 (.agg #[.pointer (some ⟨7, 66, none⟩)])]).run Tryz.prog w = .ok (.bool true) w := by kernel_rfl
theorem As.typeOf1(v:Value)(w:World):(ReflectliteType.typeOf #[.iface 90 v]).run Tryz.prog w=.ok (.iface 196 (.agg #[.pointer (some ⟨7,90,none⟩)])) w:=by kernel_rfl
theorem As.assignable1(w : World) : (ReflectliteType.relation "AssignableTo" ReflectliteType.assignableTo #[.agg #[.pointer (some ⟨7, 90, none⟩)], .iface 196 (.agg #[.pointer (some ⟨7, 90, none⟩)])]).run Tryz.prog w = .ok (.bool true) w := by kernel_rfl
theorem As.valueOf1(e:Addr)(w:World):(ReflectliteValue.unpack (.iface 90 (.pointer (some e)))).run Tryz.prog w
 = .ok (.agg #[.pointer (some ⟨7,90,none⟩),.pointer (some ⟨w.heap.size,0,none⟩),.int .u64 150]) (w.alloc (.cells #[.pointer (some e)] 90)):=by kernel_rfl
theorem As.elemOf2(w:World):(Rtype.elem? 121).run Tryz.prog w=.ok (some 90) w:=by kernel_rfl
theorem As.mk1(p:Addr)(w:World):(ReflectliteValue.mk 90 p ReflectliteValue.flagAddr).run Tryz.prog w=.ok (.agg #[.pointer (some ⟨7,90,none⟩),.pointer (some p),.int .u64 406]) w:=by kernel_rfl
theorem As.elemV2(a p:Addr)(W:World)(ha:W.cell? a=some (.pointer (some p))) :
 (ReflectliteValue.method (ReflectliteValue.valueError "reflectlite.Value.Elem" 0) ReflectliteValue.elem #[.agg #[.pointer (some ⟨7, 121, none⟩), .pointer (some a), .int .u64 150]]).run Tryz.prog W
   = .ok (.agg #[.pointer (some ⟨7,90,none⟩),.pointer (some p),.int .u64 406]) W:=by
 rw[As.rlm];simp only[Sem.run_bind,As.parts2,Result.andThen]
 simp[ReflectliteValue.elem,loadVar,isAgg,underlying,Tryz.underlying121,ha,Result.andThen,As.elemOf2,As.mk1]
theorem As.rls(v x:Value):ReflectliteValue.set #[v,x]=(do
 let (some (dst,a,fl),some (src,b,_)):=(← ReflectliteValue.parts v,← ReflectliteValue.parts x)
  | unsupported (.noEntry "extern/(internal/reflectlite.Value).Set.zeroValue")
 if fl / ReflectliteValue.flagAddr % 2 == 0 then unsupported (.noEntry "extern/(internal/reflectlite.Value).Set.unaddressable")
 let val ← loadVar src b
 if ← Rtype.directlyAssignable dst src then storeVar dst a val
 else if ← Rtype.implements dst src then
  if (← Rtype.kind src) == 20 then
   match val with
   | .nilIface => unsupported (.noEntry "extern/reflectlite: a nil value of one interface type handed on as a value of another")
   | _=>storeVar dst a val
  else storeVar dst a (.iface src val)
 else panicString ("reflectlite.Set: value of type " ++ (← Rtype.spelt src) ++ " is not assignable to type " ++ (← Rtype.spelt dst))
 pure (.tuple #[])):=rfl
theorem As.parts1a(a:Addr)(w:World):(ReflectliteValue.parts (.agg #[.pointer (some ⟨7,90,none⟩),.pointer (some a),.int .u64 406])).run Tryz.prog w=.ok (some (90,a,406)) w:=by kernel_rfl
theorem As.parts1(a:Addr)(w:World):(ReflectliteValue.parts (.agg #[.pointer (some ⟨7,90,none⟩),.pointer (some a),.int .u64 150])).run Tryz.prog w=.ok (some (90,a,150)) w:=by kernel_rfl
theorem As.direct1(w:World):(Rtype.directlyAssignable 90 90).run Tryz.prog w=.ok true w:=by kernel_rfl
theorem As.set1(ta b e:Addr)(old:Value)(W:World)(hb:W.cell? b=some (.pointer (some e)))(ht:W.cell? ta=some old)(hf:W.frozen? ta=false) :
 (ReflectliteValue.set #[.agg #[.pointer (some ⟨7,90,none⟩),.pointer (some ta),.int .u64 406],.agg #[.pointer (some ⟨7,90,none⟩),.pointer (some b),.int .u64 150]]).run Tryz.prog W
   = .ok (.tuple #[]) (W.setCell ta (.pointer (some e))):=by
 rw[As.rls];simp only[Sem.run_bind,As.parts1a,As.parts1,Result.andThen]
 simp[ReflectliteValue.flagAddr,loadVar,isAgg,underlying,Tryz.underlying90,hb,Result.andThen,As.direct1,storeVar,Value.cells,storeCells,Addr.add]
 rw[run_store Tryz.prog W ta _ _ (by rfl)]
 simp[ht,hf]
set_option maxHeartbeats 4000000 in
theorem as_hit(e t:Addr)(old:Value)(w:World)(hg:w.cell? ⟨0,0,none⟩=some (.iface 196 (.agg #[.pointer (some ⟨7,66,none⟩)])))(ht0:w.cell? t=some old)(hf0:w.frozen? t=false) :
 Calls Tryz.prog 67 #[.iface 90 (.pointer (some e)),.iface 121 (.pointer (some t))] w fun ev w'=>ev=.returned (.bool true)∧w'=((((w.alloc (.cells #[.pointer (some t)] 121)).alloc (.cells #[.pointer (some ⟨7,121,none⟩),.pointer (some ⟨w.heap.size,0,none⟩),.int .u64 150] 175)).alloc (.cells #[.pointer (some ⟨7,121,none⟩),.pointer (some ⟨w.heap.size,0,none⟩),.int .u64 150] 175)).alloc (.cells #[.pointer (some e)] 90)).setCell t (.pointer (some e)):=by
 have h6:=@run_callFunc_extern Tryz.prog 96 _ (fun args=>ReflectliteValue.unpack (args.getD 0 (.tuple #[]))) Tryz.func96 (by kernel_rfl) (by kernel_rfl) (by kernel_rfl) (by kernel_rfl)
 have h7 := @run_callFunc_extern Tryz.prog 97 _ (ReflectliteValue.methodAny (ReflectliteValue.valueError "reflectlite.Value.Type" 0) (fun t _ _ _ => ReflectliteType.toType t)) Tryz.func97 (by kernel_rfl) (by kernel_rfl) (by kernel_rfl) (by kernel_rfl)
 have h8 := @run_callFunc_extern Tryz.prog 98 _ (ReflectliteValue.method (ReflectliteValue.valueError "reflectlite.Value.IsNil" 0) ReflectliteValue.isNil) Tryz.func98 (by kernel_rfl) (by kernel_rfl) (by kernel_rfl) (by kernel_rfl)
 have h27:=@run_callFunc_extern Tryz.prog 226 _ (ReflectliteType.abiMethod fun t=>do pure (.int .u8 (← Rtype.kind t))) Tryz.func226 (by kernel_rfl) (by kernel_rfl) (by kernel_rfl) (by kernel_rfl)
 have h37:=@run_callFunc_extern Tryz.prog 239 _ (ReflectliteType.method ReflectliteType.elem) Tryz.func239 (by kernel_rfl) (by kernel_rfl) (by kernel_rfl) (by kernel_rfl)
 have h38 := @run_callFunc_extern Tryz.prog 240 _ (ReflectliteType.relation "Implements" ReflectliteType.implements_) Tryz.func240 (by kernel_rfl) (by kernel_rfl) (by kernel_rfl) (by kernel_rfl)
 have h10:=@run_callFunc_extern Tryz.prog 124 _ ReflectliteType.typeOf Tryz.func124 (by kernel_rfl) (by kernel_rfl) (by kernel_rfl) (by kernel_rfl)
 have h35 := @run_callFunc_extern Tryz.prog 237 _ (ReflectliteType.relation "AssignableTo" ReflectliteType.assignableTo) Tryz.func237 (by kernel_rfl) (by kernel_rfl) (by kernel_rfl) (by kernel_rfl)
 have h11 := @run_callFunc_extern Tryz.prog 125 _ (ReflectliteValue.method (ReflectliteValue.valueError "reflectlite.Value.Elem" 0) ReflectliteValue.elem) Tryz.func125 (by kernel_rfl) (by kernel_rfl) (by kernel_rfl) (by kernel_rfl)
 have h12:=@run_callFunc_extern Tryz.prog 126 _ ReflectliteValue.set Tryz.func126 (by kernel_rfl) (by kernel_rfl) (by kernel_rfl) (by kernel_rfl)
 have tO:=As.typeOf1
 have mA:=As.methodAssignableTo
 have a25:=As.assignable1
 have v25:=As.valueOf1
 have f6:=As.valueOf2
 have f7:=As.type2
 have mK:=As.methodKind
 have mE:=As.methodElem
 have mI:=As.methodImplements
 have k27:=As.kind2
 have k25:=As.kind1
 have e27:=As.elem2
 have i25:=As.implements1
 have n8:=As.isNil2 ⟨w.heap.size,0,none⟩ t ((w.alloc (.cells #[.pointer (some t)] 121)).alloc (.cells #[.pointer (some ⟨7,121,none⟩),.pointer (some ⟨w.heap.size,0,none⟩),.int .u64 150] 175)) (by simp)
 have hlt:0<w.heap.size:=by
  rcases Nat.eq_zero_or_pos w.heap.size with h0 | h
  ·simp[World.cell?,h0] at hg
  ·exact h
 have hg2:((w.alloc (.cells #[.pointer (some t)] 121)).alloc (.cells #[.pointer (some ⟨7,121,none⟩),.pointer (some ⟨w.heap.size,0,none⟩),.int .u64 150] 175)).cell? ⟨0,0,none⟩=some (.iface 196 (.agg #[.pointer (some ⟨7,66,none⟩)])):=by
  rw[World.cell?_alloc_lt _ _ ⟨0,0,none⟩ (by simp),World.cell?_alloc_lt _ _ ⟨0,0,none⟩ hlt];exact hg
 have htl:t.block<w.heap.size:=by
  rcases Nat.lt_or_ge t.block w.heap.size with h | h
  ·exact h
  ·simp[World.cell?,Array.getElem?_eq_none h] at ht0
 have el:=As.elemV2 ⟨w.heap.size,0,none⟩ t (((w.alloc (.cells #[.pointer (some t)] 121)).alloc (.cells #[.pointer (some ⟨7,121,none⟩),.pointer (some ⟨w.heap.size,0,none⟩),.int .u64 150] 175)).alloc (.cells #[.pointer (some ⟨7,121,none⟩),.pointer (some ⟨w.heap.size,0,none⟩),.int .u64 150] 175)) (by rw[World.cell?_alloc_lt _ _ ⟨w.heap.size,0,none⟩ (by simp;omega)];simp)
 have st:=As.set1 t ⟨w.heap.size+1+1+1,0,none⟩ e old ((((w.alloc (.cells #[.pointer (some t)] 121)).alloc (.cells #[.pointer (some ⟨7,121,none⟩),.pointer (some ⟨w.heap.size,0,none⟩),.int .u64 150] 175)).alloc (.cells #[.pointer (some ⟨7,121,none⟩),.pointer (some ⟨w.heap.size,0,none⟩),.int .u64 150] 175)).alloc (.cells #[.pointer (some e)] 90))
  (by rw[World.cell?_alloc_at _ _ _ _ (by simp)];rfl)
  (by rw[World.cell?_alloc_lt _ _ t (by simp;omega),World.cell?_alloc_lt _ _ t (by simp;omega),World.cell?_alloc_lt _ _ t (by simp;omega),World.cell?_alloc_lt _ _ t htl];exact ht0)
  (by rw[World.frozen?_alloc_old _ _ t (by simp;omega),World.frozen?_alloc_old _ _ t (by simp;omega),World.frozen?_alloc_old _ _ t (by simp;omega),World.frozen?_alloc_old _ _ t (Nat.ne_of_lt htl)];exact hf0)
 go_enter Tryz.func67,Tryz.ntmps67
 go_wp2
 refine wp_loop_rounds 1 ?_;rw[rounds_succ]
 go_wp2
 go_ret
 exact⟨rfl,rfl⟩
theorem good_alloc{w:World}{S:St}(hg:Good (C G) w S)(o:Obj):Good (C G) (w.alloc o) S∧Adv w S (w.alloc o) S:=
 ⟨hg.mk (hg.1.alloc o) (Adv.alloc o hg.1.fresh),Adv.alloc o hg.1.fresh⟩
def GAs(G:Nat→Option (List AV)):Prop:=G 0=some [.raw (.iface 196 (.agg #[.pointer (some ⟨7,66,none⟩)]))]
theorem as_ok_nil(x:AV)(S:St):Triple P (C G) 67 [.nili,x] S fun o S'=>o=.ret (.bool false)∧S'=S:=by
 refine Triple.of_calls (x:=.bool false) Tryz.func67 rfl (by decide +kernel) (fun w vs hg hr=>?_) ⟨rfl,rfl⟩
 obtain⟨u,v,hv,r1,r2⟩:=RelL.two hr;simp only[Rel] at r1;subst r1;rw[show vs=#[.nilIface,v] from arr_of_list hv];refine(as_nil v w).mono fun e w' he=>?_
 obtain⟨rfl,rfl⟩:=he;exact⟨_,rfl,by simp only[Rel],Below.refl _ _⟩
theorem as_ok_hit(hA:GAs G)(e:Int){b:Nat}{S:St}(hS:S b=some (.obj 90 [.nilp])) :
 Triple P (C G) 67 [failAV e,.ifc 121 (.ref b 0)] S fun o S'=>o=.ret (.bool true)∧S'=S.upd b (.obj 90 [.imm [.int .i64 2,.int .i64 0,.int .i64 e]]):=by
 refine Triple.of_callsW Tryz.func67 rfl (by decide +kernel) (fun w vs hg hr=>?_)
 obtain⟨u,v,hv,r1,r2⟩:=RelL.two hr;unfold failAV at r1;simp only[Rel] at r1 r2;obtain⟨y,rfl,fb,off,rfl,r3⟩:=r1;obtain⟨z,rfl,rfl⟩:=r2;rw[show vs=#[.iface 90 (.pointer (some ⟨fb,off,none⟩)),.iface 121 (.pointer (some ⟨b,0,none⟩))] from arr_of_list hv];obtain⟨_,_,h3,_⟩:=hg.2 _ _ hA;simp only[RelAt] at h3;obtain⟨⟨v0,⟨_,h4,_⟩,h5⟩,_⟩:=h3;simp only[Rel] at h5;subst h5;obtain⟨cs,k1,k2,k3⟩:=hg.1 b _ hS;obtain⟨u0,hu0,h6⟩:=RelL.one k2;simp only[Rel] at h6;subst h6;obtain rfl:cs=#[.pointer none]:=arr_of_list hu0;refine(as_hit ⟨fb,off,none⟩ ⟨b,0,none⟩ (.pointer none) w h4 (by rw[Lib.cell_of_heap k1];rfl) (by simp[World.frozen?,k1])).mono fun ev w' he=>?_
 obtain⟨rfl,rfl⟩:=he;obtain⟨g1,a1⟩:=good_alloc hg (.cells #[.pointer (some ⟨b,0,none⟩)] 121);obtain⟨g2,a2⟩:=good_alloc g1 (.cells #[.pointer (some ⟨7,121,none⟩),.pointer (some ⟨w.heap.size,0,none⟩),.int .u64 150] 175);obtain⟨g3,a3⟩:=good_alloc g2 (.cells #[.pointer (some ⟨7,121,none⟩),.pointer (some ⟨w.heap.size,0,none⟩),.int .u64 150] 175);obtain⟨g4,a4⟩:=good_alloc g3 (.cells #[.pointer (some ⟨fb,off,none⟩)] 90);have aa:=((a1.trans a2).trans a3).trans a4;generalize (((w.alloc _).alloc _).alloc _).alloc _=w4 at *;obtain⟨cs,k1',k2',k3'⟩:=g4.1 b _ hS;obtain⟨u0,hu0,h6⟩:=RelL.one k2';simp only[Rel] at h6;subst h6;obtain rfl:cs=#[.pointer none]:=arr_of_list hu0;obtain⟨r1,r2⟩:=setCell_row k1' (.pointer (some ⟨fb,off,none⟩));obtain⟨q1,q2⟩:=good_row (w':=w4.setCell ⟨b,0,none⟩ (.pointer (some ⟨fb,off,none⟩))) (cells':=[.imm [.int .i64 2,.int .i64 0,.int .i64 e]]) g4 hS k1' rfl rfl rfl (by simp[World.setCell]) r2 r1 (by simp) (by
  simp only[RelL,Rel];exact⟨_,_,rfl,⟨_,_,rfl,RelAt.mono aa _ _ _ r3⟩,rfl⟩) (by
  intro v hv;simp only[Array.toList_setIfInBounds,List.set_cons_zero,List.mem_cons,List.not_mem_nil,or_false] at hv;subst hv;rfl)
 exact⟨_,.bool true,_,rfl,by simp only[Rel],q1,aa.trans q2,rfl,rfl⟩
def parseP(s:ByteArray):StepV×Int:=if (parseW (wordsL s)).2=0 then ((parseW (wordsL s)).1,0) else (zeroV,(parseW (wordsL s)).2)
theorem Parse_line_ok(hG:GS G)(hA:GAs G)(s:ByteArray)(hs:s.size≤8999999)(S:St) :
 Triple P (C G) 23 [.str s] S fun o S'=>o=.ret (.tu [stepAV (parseP s).1,.int .i64 (parseP s).2])∧S'=S:=by
 have hp:=fun S=>parse_ok (G:=G) hG s hs S
 unfold parseP;generalize parseW (wordsL s)=r at *;obtain⟨v,e⟩:=r;dsimp only at hp ⊢;refine triple_of_awp (hT G) hm Tryz.func23 rfl (by decide +kernel) rfl (by decide +kernel) (by show 1≤_;decide +kernel) rfl ?_
 refine awp_seq2 fun K hK hQ=>?_
 conv=>whnf
 intro b2 hb2;conv=>whnf
 refine hK _ _ ?_;clear hK hQ K;have hfin:∀ (o2 o2' o4 o4' o6:Own) (b4 b6:Nat),(S.upd b2 o2) b4=none→(((S.upd b2 o2).upd b4 o4).upd b4 o4') b6=none→St.le S (((((S.upd b2 o2).upd b4 o4).upd b4 o4').upd b6 o6).upd b2 o2'):=fun o2 o2' o4 o4' o6 b4 b6 hb4 hb6=>by
  rw[St.upd_upd] at hb6 ⊢;exact St.le_upd (St.le_upd' (St.le_upd' (St.le_upd' (St.le_refl _) hb2 _) hb4 _) hb6 _) hb2 _
 have hfin2:∀ (o2 o2' o4 o4' o6 o6':Own) (b4 b6:Nat),(S.upd b2 o2) b4=none→(((S.upd b2 o2).upd b4 o4).upd b4 o4') b6=none→St.le S ((((((S.upd b2 o2).upd b4 o4).upd b4 o4').upd b6 o6).upd b6 o6').upd b2 o2'):=fun o2 o2' o4 o4' o6 o6' b4 b6 hb4 hb6=>by
  rw[St.upd_upd _ b6];exact hfin _ _ _ _ _ _ _ hb4 hb6
 refine awp_seq2 fun K hK hQ=>?_
 by_cases he:e=0
 ·simp only[if_pos he] at hK hQ;simp only[errAV,if_pos he] at hp;conv=>whnf
  refine(hp _).mono ?_;rintro o S' ⟨rfl,rfl⟩;conv=>whnf
  intro b4 hb4;conv=>whnf
  refine⟨_,_,St.upd_same _ _ _,?_⟩;conv=>whnf
  refine hK _ _ ?_;clear hK hQ K;refine awp_seq2 fun K hK hQ=>?_
  conv=>whnf
  intro b6 hb6;conv=>whnf
  refine hK _ _ ?_;clear hK hQ K;refine awp_seq2 fun K hK hQ=>?_
  conv=>whnf
  refine(as_ok_nil _ _).mono ?_;rintro o S' ⟨rfl,rfl⟩;conv=>whnf
  refine hK _ _ ?_;clear hK hQ K;conv=>whnf
  refine⟨_,_,St.up hb6 (St.upd_same _ _ _),?_⟩;conv=>whnf
  refine⟨_,_,St.up hb6 (by rw[St.upd_upd];exact St.up hb4 (St.upd_same _ _ _)),?_⟩
  conv=>whnf
  refine⟨_,_,St.upd_same _ _ _,?_⟩;conv=>whnf
  refine⟨_,_,⟨rfl,rfl⟩,?_,AV.leS_refl _ _ _⟩;exact hfin _ _ _ _ _ _ _ hb4 hb6
 ·simp only[if_neg he] at hK hQ;simp only[errAV,if_neg he] at hp;conv=>whnf
  refine(hp _).mono ?_;rintro o S' ⟨rfl,rfl⟩;conv=>whnf
  intro b4 hb4;conv=>whnf
  refine⟨_,_,St.upd_same _ _ _,?_⟩;conv=>whnf
  refine hK _ _ ?_;clear hK hQ K;refine awp_seq2 fun K hK hQ=>?_
  conv=>whnf
  intro b6 hb6;conv=>whnf
  refine hK _ _ ?_;clear hK hQ K;refine awp_seq2 fun K hK hQ=>?_
  conv=>whnf
  refine(as_ok_hit hA e (St.upd_same _ _ _)).mono ?_;rintro o S' ⟨rfl,rfl⟩;have q2:∀ o4 o4' o6 o6':Own,((((((S.upd b2 (.obj 54 stepZ)).upd b4 o4).upd b4 o4').upd b6 o6).upd b6 o6') b2=some (.obj 54 stepZ)):=fun o4 o4' o6 o6'=>by
   rw[St.upd_upd,St.upd_upd];have n1:b2≠b4:=(St.ne_upd hb4).symm;have n2:b2≠b6:=(St.ne_upd (by rw[St.upd_upd] at hb6;exact St.no hb6)).symm
   exact St.ov n2 (St.ov n1 (St.upd_same _ _ _))
  have n62:b6≠b2:=St.ne_upd (by rw[St.upd_upd] at hb6;exact St.no hb6)
  refine⟨[],(.free 0 (.one 1 (.free 2 (.free 3 (.one 4 (.one 5 (.free 6 .done) .none) (.one 5 (.free 4 (.free 6 .done)) .none)))) (.one 5 (.free 1 (.free 2 (.free 3 (.free 4 (.free 6 .done))))) .none))),_,by decide +kernel,?_,fun _ _ h=>⟨_,.inl rfl,h⟩⟩
  conv=>whnf
  refine⟨?_,?_⟩
  ·refine⟨_,_,St.upd_same _ _ _,?_⟩;conv=>whnf
   refine⟨?_,?_⟩
   ·conv=>whnf
    refine⟨_,_,q2 _ _ _ _,?_⟩;conv=>whnf
    refine hQ _ _ _ (by simp) ?_
    conv=>whnf
    refine⟨_,_,St.upd_same _ _ _,?_⟩;conv=>whnf
    refine⟨_,_,⟨rfl,rfl⟩,hfin2 _ _ _ _ _ _ _ _ hb4 hb6,⟨⟨rfl,rfl,rfl,rfl,rfl,rfl,rfl,rfl,rfl,rfl,rfl⟩,rfl,rfl⟩⟩
   ·refine⟨_,_,q2 _ _ _ _,?_⟩;conv=>whnf
    refine hQ _ _ _ (by simp) ?_
    conv=>whnf
    refine⟨_,_,St.upd_same _ _ _,?_⟩;conv=>whnf
    refine⟨_,_,⟨rfl,rfl⟩,hfin2 _ _ _ _ _ _ _ _ hb4 hb6,⟨⟨rfl,rfl,rfl,rfl,rfl,rfl,rfl,rfl,rfl,rfl,rfl⟩,rfl,rfl⟩⟩
  ·refine⟨_,_,q2 _ _ _ _,?_⟩;conv=>whnf
   refine⟨_,_,St.ov n62 (St.upd_same _ _ _),?_⟩;conv=>whnf
   refine hQ _ _ _ (by simp) ?_
   conv=>whnf
   refine⟨_,_,St.upd_same _ _ _,?_⟩;conv=>whnf
   refine⟨_,_,⟨rfl,rfl⟩,hfin2 _ _ _ _ _ _ _ _ hb4 hb6,⟨⟨rfl,rfl,rfl,rfl,rfl,rfl,rfl,rfl,rfl,rfl,rfl⟩,rfl,rfl⟩⟩
def stepR(v:StepV):List AV:=[.int .i64 v.kind,.str v.num,.sl .any 3 (rowsO v.ops),.sl .any 2 (rowsP v.pieces),.str v.bound,.sl .any 1 (rowsI v.lits),.sl .any 1 (rowsS v.ids),.int .i64 v.n6,.str v.s7,.str v.s8]
def rowsT(l:List StepV):List (List AV):=l.map stepR
@[simp] theorem rowsT_len (l:List StepV):(rowsT l).length=l.length:=by simp[rowsT]
def okI(z:Int):Prop:=-9223372036854775808≤z∧z≤9223372036854775807
def litT(z:Int):ByteArray:=if z<0 then (⟨#[126,120]⟩:ByteArray)++itoaS (IntKind.i64.wrap (0-z)) else (⟨#[120]⟩:ByteArray)++itoaS z
theorem wrap_okI(z:Int):okI (IntKind.i64.wrap z):=by
 unfold okI;rw[IntKind.wrap_i64];omega
theorem itoaS_le(z:Int)(h0:-9223372036854775808≤z)(h1:z≤9223372036854775807):(itoaS z).size≤21:=by rw[itoaS_size];exact Lib.itoa_length_le z h0 h1
theorem litText_ok(hG:G10 G)(z:Int)(hz:okI z)(S:St):Triple P (C G) 89 [.int .i64 z] S fun o S'=>o=.ret (.str (litT z))∧S'=S:=by
 refine triple_of_awp (hT G) hm Tryz.func89 rfl (by decide +kernel) rfl (by decide +kernel) (by show 1≤_;decide +kernel) rfl ?_
 conv=>whnf
 refine split_of (fun h=>?_) (fun h=>?_)
 ·have h:=of_decide_eq_true h
  have hw:=wrap_okI (0-z)
  unfold litT;rw[if_pos h];conv=>whnf
  generalize IntKind.i64.wrap (0-z)=y at *;refine(itoa_ok hG y hw.1 hw.2 _).mono ?_;rintro o S' ⟨rfl,rfl⟩;conv=>whnf
  refine⟨by have:=itoaS_le y hw.1 hw.2;show 2+_≤_;omega,?_⟩
  conv=>whnf
  exact⟨_,_,⟨rfl,rfl⟩,St.le_refl _,AV.leS_refl _ _ _⟩
 ·have h:=of_decide_eq_false h
  unfold litT;rw[if_neg h];conv=>whnf
  refine(itoa_ok hG z hz.1 hz.2 _).mono ?_;rintro o S' ⟨rfl,rfl⟩;conv=>whnf
  refine⟨by have:=itoaS_le z hz.1 hz.2;show 1+_≤_;omega,?_⟩
  conv=>whnf
  exact⟨_,_,⟨rfl,rfl⟩,St.le_refl _,AV.leS_refl _ _ _⟩
theorem ba_size_append(a b:ByteArray):(a++b).size=a.size+b.size:=ByteArray.size_append
theorem litT_size(z:Int)(hz:okI z):(litT z).size≤23:=by
 unfold litT
 split
 ·have:=itoaS_le (IntKind.i64.wrap (0-z)) (wrap_okI _).1 (wrap_okI _).2
  rw[ba_size_append];show 2+_≤_;omega
 ·have:=itoaS_le z hz.1 hz.2
  rw[ba_size_append];show 1+_≤_;omega
def litsT(l:List Int):List ByteArray:=l.map litT
theorem litTexts_ok(hG:G10 G)(l:List Int)(hl:∀ z∈l,okI z)(hn:l.length≤100000000)(S:St):Triple P (C G) 63 [.sl .any 1 (rowsI l)] S fun o S'=>o=.ret (.sl .any 1 (rowsS (litsT l)))∧S'=S:=by
 refine triple_of_awp (hT G) hm Tryz.func63 rfl (by decide +kernel) rfl (by decide +kernel) (by show 1≤_;decide +kernel) rfl ?_
 conv=>whnf
 intro _;conv=>whnf
 refine⟨⟨Nat×Nat,fun(i,ba)=>[(0,.sl .any 1 (rowsI l)),(3,.sl (.acc ba) 1 (rowsS (litsT (l.take i)))),(6,.sl .any 1 (rowsI l)),(7,.int .i64 (l.length:Int)),(8,.int .i64 (i:Int))],
  fun(i,ba) S1=>AccOk S S1 9 1 ba (litsT (l.take i)).length∧i≤l.length,fun(i,_)=>l.length-i⟩,
  ⟨(0,0),⟨⟨rfl,rfl⟩,rfl,⟨rfl,rfl⟩,congrArg (AV.int .i64) (by rw[rowsI_len]),rfl,trivial⟩,_,St.leW_refl _,AccOk.init _ _ _ _,by omega⟩,?_⟩
 rintro⟨i,ba⟩ S1 ⟨h1,h2⟩;have hlen:(litsT (l.take i)).length=i:=by simp[litsT];omega
 conv=>whnf
 refine split_of (fun hlt=>?_) (fun hlt=>?_)
 ·have hlt:i<l.length:=by have:=of_decide_eq_true hlt;omega
  have hsn:litsT (l.take (i+1))=litsT (l.take i)++[litT l[i]]:=by rw[List.take_add_one,litsT,List.map_append];simp[litsT,hlt]
  have hz:=hl _ (List.getElem_mem hlt)
  have hgr:(rowsI l)[(i:Int).toNat]? = some [.int .i64 l[i]]:=by simp[rowsI,hlt]
  generalize l[i]=z at *;conv=>whnf
  refine⟨_,⟨by omega,hgr⟩,?_⟩
  conv=>whnf
  refine(litText_ok hG z hz _).mono ?_;rintro o T ⟨rfl,rfl⟩;conv=>whnf
  intro bb hbb;have h1':=h1.other hbb (.tip 9 1 1);conv=>whnf
  refine⟨⟨fun hl=>?_,?_⟩,fun S4 c1 c2 b' c3=>?_⟩
  ·have:0<(litsT (l.take i)).length:=by
    cases hx:litsT (l.take i) with
    | nil=>rw[hx] at hl;exact absurd rfl hl
    | cons _ _=>simp
   rw[rowsS_len];exact h1'.tip this
  ·show((rowsS (litsT (l.take i))).length+1)*16≤_
   rw[rowsS_len];omega
  have h5:=h1'.push (m:=(litsT (l.take i)).length+1) (by rw[rowsS_len]) c1 c2 c3 rfl
  rw[rowsS_len];have w1:IntKind.i64.wrap ((i:Int)+1)=((i+1:Nat):Int):=wrap_nat (by omega)
  conv=>whnf
  refine⟨(i+1,b'),⟨⟨rfl,rfl⟩,congrArg (AV.sl (.acc b') 1) (show rowsS (litsT (l.take i))++[[AV.str (litT z)]]=rowsS (litsT (l.take (i+1))) by rw[hsn];exact rowsS_snoc _ _),⟨rfl,rfl⟩,rfl,congrArg _ w1,trivial⟩,⟨_,St.leW_refl _,by rw[hsn,show(litsT (l.take i)++[litT z]).length=(litsT (l.take i)).length+1 by simp];exact h5,by show i+1≤_;omega⟩,by show l.length-(i+1)<l.length-i;omega⟩
 ·have hlt:i=l.length:=by have:=of_decide_eq_false hlt;omega
  subst hlt;conv=>whnf
  refine⟨_,_,⟨rfl,rfl⟩,h1.le,⟨rfl,by rw[List.take_length]⟩⟩
def opT(o:OpV):ByteArray:=
 if o.1=1 then o.2.1 else if o.1=2 then litT o.2.2 else if o.1=3 then ⟨#[43]⟩ else if o.1=4 then o.2.1++(⟨#[32,42]⟩:ByteArray) else if o.1=5 then o.2.1++(⟨#[32,100]⟩:ByteArray)
 else if o.1=6 then ⟨#[115]⟩ else if o.1=7 then litT o.2.2++(⟨#[32,119]⟩:ByteArray) else ⟨#[]⟩
theorem opText_ok(hG:G10 G)(o:OpV)(hz:okI o.2.2)(hs:o.2.1.size≤1000000000)(S:St):Triple P (C G) 61 [opAV o] S fun r S'=>r=.ret (.str (opT o))∧S'=S:=by
 obtain⟨k,num,z⟩:=o;have hlz:=litT_size z hz
 show Triple P (C G) 61 [.ag [.int .i64 k,.str num,.int .i64 z]] S fun r S'=>r=.ret (.str (opT (k,num,z)))∧S'=S
 refine triple_of_awp (hT G) hm Tryz.func61 rfl (by decide +kernel) rfl (by decide +kernel) (by show 1≤_;decide +kernel) rfl ?_
 refine awp_seq2 fun K hK hQ=>?_
 conv=>whnf
 intro b hb;conv=>whnf
 refine hK _ _ ?_;clear hK hQ K;refine awp_seq2 fun K hK hQ=>?_
 conv=>whnf
 refine⟨_,_,St.upd_same _ _ _,?_⟩;conv=>whnf
 have hle:=St.le_upd' (St.le_refl S) hb (.obj 85 [.int .i64 k,.str num,.int .i64 z])
 have q:=St.upd_same S b (.obj 85 [.int .i64 k,.str num,.int .i64 z])
 generalize S.upd b (.obj 85 [.int .i64 k,.str num,.int .i64 z])=S1 at *;refine split_of (fun h=>?_) (fun h=>?_)
 ·have h1:k=1:=by simpa using h
  rw[show opT (k,num,z)=num from by simp[opT,h1]] at hQ
  clear hK;conv=>whnf
  refine⟨_,_,q,?_⟩;conv=>whnf
  refine hQ _ _ _ (by simp) ?_
  conv=>whnf
  exact⟨_,_,⟨rfl,rfl⟩,hle,AV.leS_refl _ _ _⟩
 have h1:¬ k=1:=by simpa using h
 conv=>whnf
 refine split_of (fun h=>?_) (fun h=>?_)
 ·have h2:k=2:=by simpa using h
  rw[show opT (k,num,z)=litT z from by simp[opT,h2]] at hQ
  clear hK;conv=>whnf
  refine⟨_,_,q,?_⟩;conv=>whnf
  refine(litText_ok hG z hz _).mono ?_;rintro r S' ⟨rfl,rfl⟩;conv=>whnf
  refine hQ _ _ _ (by simp) ?_
  conv=>whnf
  exact⟨_,_,⟨rfl,rfl⟩,hle,AV.leS_refl _ _ _⟩
 have h2:¬ k=2:=by simpa using h
 conv=>whnf
 refine split_of (fun h=>?_) (fun h=>?_)
 ·have h3:k=3:=by simpa using h
  rw[show opT (k,num,z)=(⟨#[43]⟩:ByteArray) from by simp[opT,h3]] at hQ
  clear hK;conv=>whnf
  refine hQ _ _ _ (by simp) ?_
  conv=>whnf
  exact⟨_,_,⟨rfl,rfl⟩,hle,AV.leS_refl _ _ _⟩
 have h3:¬ k=3:=by simpa using h
 conv=>whnf
 refine split_of (fun h=>?_) (fun h=>?_)
 ·have h4:k=4:=by simpa using h
  rw[show opT (k,num,z)=num++(⟨#[32,42]⟩:ByteArray) from by simp[opT,h4]] at hQ
  clear hK;conv=>whnf
  refine⟨_,_,q,?_⟩;conv=>whnf
  refine⟨by show num.size+2≤_;dsimp only at hs;omega,?_⟩
  conv=>whnf
  refine hQ _ _ _ (by simp) ?_
  conv=>whnf
  exact⟨_,_,⟨rfl,rfl⟩,hle,AV.leS_refl _ _ _⟩
 have h4:¬ k=4:=by simpa using h
 conv=>whnf
 refine split_of (fun h=>?_) (fun h=>?_)
 ·have h5:k=5:=by simpa using h
  rw[show opT (k,num,z)=num++(⟨#[32,100]⟩:ByteArray) from by simp[opT,h5]] at hQ
  clear hK;conv=>whnf
  refine⟨_,_,q,?_⟩;conv=>whnf
  refine⟨by show num.size+2≤_;dsimp only at hs;omega,?_⟩
  conv=>whnf
  refine hQ _ _ _ (by simp) ?_
  conv=>whnf
  exact⟨_,_,⟨rfl,rfl⟩,hle,AV.leS_refl _ _ _⟩
 have h5:¬ k=5:=by simpa using h
 conv=>whnf
 refine split_of (fun h=>?_) (fun h=>?_)
 ·have h6:k=6:=by simpa using h
  rw[show opT (k,num,z)=(⟨#[115]⟩:ByteArray) from by simp[opT,h6]] at hQ
  clear hK;conv=>whnf
  refine hQ _ _ _ (by simp) ?_
  conv=>whnf
  exact⟨_,_,⟨rfl,rfl⟩,hle,AV.leS_refl _ _ _⟩
 have h6:¬ k=6:=by simpa using h
 conv=>whnf
 refine split_of (fun h=>?_) (fun h=>?_)
 ·have h7:k=7:=by simpa using h
  rw[show opT (k,num,z)=litT z++(⟨#[32,119]⟩:ByteArray) from by simp[opT,h7]] at hQ
  clear hK;conv=>whnf
  refine⟨_,_,q,?_⟩;conv=>whnf
  refine(litText_ok hG z hz _).mono ?_;rintro r S' ⟨rfl,rfl⟩;conv=>whnf
  refine⟨by show(litT z).size+2≤_;omega,?_⟩
  conv=>whnf
  refine hQ _ _ _ (by simp) ?_
  conv=>whnf
  exact⟨_,_,⟨rfl,rfl⟩,hle,AV.leS_refl _ _ _⟩
 have h7:¬ k=7:=by simpa using h
 conv=>whnf
 refine hK _ _ ?_;clear hK hQ K;conv=>whnf
 rw[show opT (k,num,z)=(⟨#[]⟩:ByteArray) from by simp[opT,h1,h2,h3,h4,h5,h6,h7]]
 exact⟨_,_,⟨rfl,rfl⟩,hle,AV.leS_refl _ _ _⟩
end Go.Proofs.YtogipknpafkfpaaGreatDoor.Aw

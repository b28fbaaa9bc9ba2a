/- Package proof, walked: table, parse. Package hallmarkref8: the reader's ends. Package hallmarkref8: the reader's step, o -/
import Derived.Test.YtjpboanohpaibaaGreatDoorPat13
import Derived.WalkKit
import Derived.LaidEql
import Derived.Stop.Asserts
import Derived.RowKitTokens
import Derived.Test.YtjpboanohpaibaaGreatDoorPat7
import Derived.Lib.SplitLaws
set_option linter.all false
set_option maxRecDepth 100000
namespace Go.Proofs.YtjpboanohpaibaaGreatDoor.Aw
open Go Go.RowKit
variable {G:Nat→Option (List AV)}
def kHead:ByteArray:=⟨#[112,115,101,117,100,111,45,66,111,111,108,101,97,110]⟩
def kF:ByteArray:=⟨#[102]⟩
def kPol:ByteArray:=⟨#[112,111,108]⟩
def kRup:ByteArray:=⟨#[114,117,112]⟩
def kSoli:ByteArray:=⟨#[115,111,108,105]⟩
def kSolx:ByteArray:=⟨#[115,111,108,120]⟩
def kE:ByteArray:=⟨#[101]⟩
def kDel:ByteArray:=⟨#[100,101,108]⟩
def kStar:ByteArray:=⟨#[42]⟩
def kOut:ByteArray:=⟨#[111,117,116,112,117,116]⟩
def kConc:ByteArray:=⟨#[99,111,110,99,108,117,115,105,111,110]⟩
def kEnd:ByteArray:=⟨#[101,110,100]⟩
def fnAV(f:Nat):AV:=.fn (.func f) [] []
def tabE:List (AV×AV):=[
 (.str kHead,fnAV 114),(.str kF,fnAV 115),(.str kPol,fnAV 116),(.str kRup,fnAV 117),
 (.str kSoli,fnAV 118),(.str kSolx,fnAV 119),(.str kE,fnAV 120),(.str kDel,fnAV 121),
 (.str kStar,fnAV 122),(.str kOut,fnAV 123),(.str kConc,fnAV 124),(.str kEnd,fnAV 125)]
theorem table_ok(S:St):Triple P (C G) 87 [] S fun o S'=>∃ mr,S mr=none∧o=.ret (.mp mr)∧S'=S.upd mr (.mapo tabE):=by
 refine triple_of_awp (hT G) hm Tryz.func87 rfl (by decide +kernel) rfl (by decide +kernel) (by show 0≤_;decide +kernel) rfl ?_
 conv=>whnf
 intro mr hmr;conv=>whnf
 refine⟨_,St.upd_same _ _ _,?_⟩;conv=>whnf
 refine⟨_,St.upd_same _ _ _,?_⟩;conv=>whnf
 refine⟨_,St.upd_same _ _ _,?_⟩;conv=>whnf
 refine⟨_,St.upd_same _ _ _,?_⟩;conv=>whnf
 refine⟨_,St.upd_same _ _ _,?_⟩;conv=>whnf
 refine⟨_,St.upd_same _ _ _,?_⟩;conv=>whnf
 refine⟨_,St.upd_same _ _ _,?_⟩;conv=>whnf
 refine⟨_,St.upd_same _ _ _,?_⟩;conv=>whnf
 refine⟨_,St.upd_same _ _ _,?_⟩;conv=>whnf
 refine⟨_,St.upd_same _ _ _,?_⟩;conv=>whnf
 refine⟨_,St.upd_same _ _ _,?_⟩;conv=>whnf
 refine⟨_,St.upd_same _ _ _,?_⟩;conv=>whnf
 simp only[St.upd_upd];refine⟨_,_,⟨mr,hmr,rfl,rfl⟩,St.le_refl _,AV.leS_refl _ _ _⟩
def zeroV:StepV:=⟨0,ByteArray.empty,[],[],ByteArray.empty,[],[],0,ByteArray.empty,ByteArray.empty⟩
def tabG(w:ByteArray):Option (List ByteArray→StepV→RetG):=
 if w=kHead then some (fixG 1 headWords) else if w=kF then some countG else if w=kPol then some polG else if w=kRup then some rupG
 else if w=kSoli then some (solG 5) else if w=kSolx then some (solG 11) else if w=kE then some sameG else if w=kDel then some delG
 else if w=kStar then some noteG else if w=kOut then some (fixG 8 outputWords) else if w=kConc then some conclG else if w=kEnd then some (fixG 10 lastWords) else none
def finG(r:RetG):StepV×Int:=(r.2.2,if r.1=0 then (if r.2.1=[] then 0 else 80) else r.1)
def parseW(ws:List ByteArray):StepV×Int:=
 match ws with
 | []=>({ zeroV with kind:=7 },0)
 | w::l=>match tabG w with
   | some f=>finG (f l zeroV)
   | none=>(zeroV,80)
def stepAV(v:StepV):AV:=.ag [.int .i64 v.kind,.str v.num,.sl .any 3 (rowsO v.ops),.sl .any 2 (rowsP v.pieces),.str v.bound,.sl .any 1 (rowsI v.lits),.sl .any 1 (rowsS v.ids),.int .i64 v.n6,.str v.s7,.str v.s8]
def stepZ:List AV:=[.int .i64 0,.str ByteArray.empty,.nils,.nils,.str ByteArray.empty,.nils,.nils,.int .i64 0,.str ByteArray.empty,.str ByteArray.empty]
theorem parse_ok(hG:GS G)(s:ByteArray)(hs:s.size≤8999999)(S:St) :
 Triple P (C G) 57 [.str s] S fun o S'=>o=.ret (.tu [stepAV (parseW (wordsL s)).1,errAV (parseW (wordsL s)).2])∧S'=S:=by
 have hwo:OkW (wordsL s):=⟨fun w hw=>Nat.le_trans (wordsL_size s w hw) (by omega),Nat.le_trans (wordsL_len s) (by omega)⟩
 have hwords:=fun S=>words_ok (G:=G) s (by omega) S
 generalize wordsL s=ws at *;refine triple_of_awp (hT G) hm Tryz.func57 rfl (by decide +kernel) rfl (by decide +kernel) (by show 1≤_;decide +kernel) rfl ?_
 refine awp_seq2 fun K hK hQ=>?_
 conv=>whnf
 intro b2 hb2;conv=>whnf
 refine hK _ _ ?_;clear hK hQ K;refine awp_seq2 fun K hK hQ=>?_
 conv=>whnf
 refine(hwords _).mono ?_;rintro o S' ⟨rfl,rfl⟩;conv=>whnf
 intro rb hrb;conv=>whnf
 refine hK _ _ ?_;clear hK hQ K;refine awp_seq2 fun K hK hQ=>?_
 conv=>whnf
 refine⟨_,_,St.upd_same _ _ _,?_⟩;conv=>whnf
 intro _;have hle:St.le S ((S.upd b2 (.obj 90 stepZ)).upd rb (.obj 136 (.sl .full 1 (rowsS ws)::stepZ))):=St.le_upd' (St.le_upd' (St.le_refl _) hb2 _) hrb _;have q2:((S.upd b2 (.obj 90 stepZ)).upd rb (.obj 136 (.sl .full 1 (rowsS ws)::stepZ))) b2=some (.obj 90 stepZ):=St.up hrb (St.upd_same _ _ _);have hw3:St.leW ((S.upd b2 (.obj 90 stepZ)).upd rb (rdr ws (stepC zeroV ⟨0,0,0,0⟩))) ((S.upd b2 (.obj 90 stepZ)).upd rb (.obj 136 (.sl .full 1 (rowsS ws)::stepZ))):=by
  have:=St.leW_upd (cs':=.sl .any 1 (rowsS ws)::stepC zeroV ⟨0,0,0,0⟩) (St.upd_same (S.upd b2 (.obj 90 stepZ)) rb (.obj 136 (.sl .full 1 (rowsS ws)::stepZ))) ⟨⟨rfl,rfl⟩,rfl,rfl,rfl,rfl,rfl,rfl,rfl,rfl,rfl,rfl,trivial⟩
  rwa [St.upd_upd] at this
 have hat:RdrAt (S.upd b2 (.obj 90 stepZ)) ((S.upd b2 (.obj 90 stepZ)).upd rb (rdr ws (stepC zeroV ⟨0,0,0,0⟩))) rb ws zeroV ⟨0,0,0,0⟩:=
  ⟨St.le_upd' (St.le_refl _) hrb _,hrb,St.upd_same _ _ _,fun h=>absurd h (by decide),fun h=>absurd h (by decide),fun h=>absurd h (by decide),fun h=>absurd h (by decide)⟩
 cases ws with
 | nil=>
   conv=>whnf
   refine⟨_,_,q2,?_⟩;conv=>whnf
   refine hQ _ _ _ (by simp) ?_
   conv=>whnf
   refine⟨_,_,St.upd_same _ _ _,?_⟩;conv=>whnf
   refine⟨_,_,⟨rfl,rfl⟩,?_,⟨⟨rfl,rfl,rfl,rfl,rfl,rfl,rfl,rfl,rfl,rfl,rfl⟩,rfl,rfl⟩⟩;exact St.le_upd (St.le_upd' (St.le_upd' (St.le_refl _) hb2 _) hrb _) hb2 _
 | cons w l=>
   conv=>whnf
   refine hK _ _ ?_;clear hK hQ K;have htk:=Triple.weakS (rtake_ok (G:=G) rb (w::l) _ _ hat.at_) hw3;have hat2:=hat.words (ws':=l);have hw1:=hwo.suffix (List.suffix_cons w l);refine awp_seq2 fun K hK hQ=>?_
   conv=>whnf
   refine htk.mono ?_;rintro o S' ⟨rfl,rfl⟩;clear htk hw3;conv=>whnf
   refine hK _ _ ?_;clear hK hQ K;have hn2:rb≠b2:=(St.ne_upd hrb);have hS0:∀ S',RdrAt (S.upd b2 (.obj 90 stepZ)) S' rb l zeroV ⟨0,0,0,0⟩→S' b2=some (.obj 90 stepZ):=fun S' h=>h.le _ _ (St.upd_same _ _ _)
   generalize ((S.upd b2 _).upd rb _).upd rb _=S1 at hat2 ⊢;have hz2:∀ S':St,St.le (S.upd b2 (.obj 90 stepZ)) S'→∀ o,St.le S (S'.upd b2 o):=fun S' h o=>St.le_upd (St.le_trans (St.le_upd' (St.le_refl _) hb2 _) h) hb2 _
   have q20:=St.upd_same S b2 (.obj 90 stepZ)
   generalize S.upd b2 (.obj 90 stepZ)=S0 at *;refine awp_seq2 fun K hK hQ=>?_
   conv=>whnf
   refine(table_ok _).mono ?_;rintro o S' ⟨mr,hmr,rfl,rfl⟩;have hat3:=hat2.more hmr (.mapo tabE);conv=>whnf
   refine⟨_,St.upd_same _ _ _,?_⟩;generalize S1.upd mr (.mapo tabE)=S2 at *;have hv:OkV zeroV:=⟨by decide,by decide,by decide,by decide⟩
   conv=>whnf
   refine split_of (fun h=>?_) (fun h=>?_)
   ·have hh:w=kHead:=of_decide_eq_true h
    have hg:tabG w=some (fixG 1 headWords):=by unfold tabG;rw[if_pos hh]
    have hf:=head_ok (G:=G) ⟨_,hat3⟩
    have hpw:parseW (w::l)=finG (fixG 1 headWords l zeroV):=by unfold parseW;dsimp only;rw[hg]
    rw[hpw] at hK hQ;clear hpw hg;generalize fixG 1 headWords l zeroV=r at *;obtain⟨e,l3,v3⟩:=r;dsimp only at hf;unfold finG at hK hQ;dsimp only at hK hQ;conv=>whnf
    refine hK _ _ ?_;clear hK hQ K;refine awp_seq2 fun K hK hQ=>?_
    conv=>whnf
    refine hK _ _ ?_;clear hK hQ K;refine awp_seq2 fun K hK hQ=>?_
    conv=>whnf
    refine hf.mono ?_;rintro o S' ⟨rfl,t3,hr⟩;have q2:=hr.le _ _ q20;have hle:=hz2 S' hr.le;have hrs:=hr.at_
    by_cases he:e=0
    ·simp only[if_pos he] at hK hQ;simp only[errAV,if_pos he];conv=>whnf
     refine hK _ _ ?_;clear hK hQ K;refine awp_seq2 fun K hK hQ=>?_
     conv=>whnf
     refine(rend_ok rb l3 _ S' hrs).mono ?_;rintro o T ⟨rfl,rfl⟩
     cases l3 with
     | nil=>
       simp only[if_true] at hK hQ ⊢;conv=>whnf
       refine hK _ _ ?_;clear hK hQ K;conv=>whnf
       refine⟨_,_,hrs,?_⟩;conv=>whnf
       refine⟨_,_,q2,?_⟩;conv=>whnf
       refine⟨_,_,St.upd_same _ _ _,?_⟩;conv=>whnf
       exact⟨_,_,⟨rfl,rfl⟩,hle _,⟨⟨rfl,rfl,⟨rfl,rfl⟩,⟨rfl,rfl⟩,rfl,⟨rfl,rfl⟩,⟨rfl,rfl⟩,rfl,rfl,rfl,rfl⟩,rfl,rfl⟩⟩
     | cons x l3=>
       simp only[reduceCtorEq,if_false] at hK hQ ⊢;conv=>whnf
       refine hK _ _ ?_;clear hK hQ K;conv=>whnf
       refine⟨_,_,hrs,?_⟩;conv=>whnf
       refine⟨_,_,q2,?_⟩;conv=>whnf
       refine⟨_,_,St.upd_same _ _ _,?_⟩;conv=>whnf
       exact⟨_,_,⟨rfl,rfl⟩,hle _,⟨⟨rfl,rfl,⟨rfl,rfl⟩,⟨rfl,rfl⟩,rfl,⟨rfl,rfl⟩,⟨rfl,rfl⟩,rfl,rfl,rfl,rfl⟩,AV.leS_refl _ _ _,rfl⟩⟩
    ·simp only[if_neg he] at hK hQ;simp only[errAV,if_neg he] at hK hQ ⊢;conv=>whnf
     refine hK _ _ ?_;clear hK hQ K;refine awp_seq2 fun K hK hQ=>?_
     conv=>whnf
     refine hK _ _ ?_;clear hK hQ K;conv=>whnf
     refine⟨_,_,hrs,?_⟩;conv=>whnf
     refine⟨_,_,q2,?_⟩;conv=>whnf
     refine⟨_,_,St.upd_same _ _ _,?_⟩;conv=>whnf
     exact⟨_,_,⟨rfl,rfl⟩,hle _,⟨⟨rfl,rfl,⟨rfl,rfl⟩,⟨rfl,rfl⟩,rfl,⟨rfl,rfl⟩,⟨rfl,rfl⟩,rfl,rfl,rfl,rfl⟩,AV.leS_refl _ _ _,rfl⟩⟩
   have n0:¬ w=kHead:=of_decide_eq_false h
   conv=>whnf
   refine split_of (fun h=>?_) (fun h=>?_)
   ·have hh:w=kF:=of_decide_eq_true h
    have hg:tabG w=some (countG):=by unfold tabG;rw[if_neg n0,if_pos hh]
    have hf:=count_ok (G:=G) ⟨_,hat3⟩ hw1
    have hpw:parseW (w::l)=finG (countG l zeroV):=by unfold parseW;dsimp only;rw[hg]
    rw[hpw] at hK hQ;clear hpw hg;generalize countG l zeroV=r at *;obtain⟨e,l3,v3⟩:=r;dsimp only at hf;unfold finG at hK hQ;dsimp only at hK hQ;conv=>whnf
    refine hK _ _ ?_;clear hK hQ K;refine awp_seq2 fun K hK hQ=>?_
    conv=>whnf
    refine hK _ _ ?_;clear hK hQ K;refine awp_seq2 fun K hK hQ=>?_
    conv=>whnf
    refine hf.mono ?_;rintro o S' ⟨rfl,t3,hr⟩;have q2:=hr.le _ _ q20;have hle:=hz2 S' hr.le;have hrs:=hr.at_
    by_cases he:e=0
    ·simp only[if_pos he] at hK hQ;simp only[errAV,if_pos he];conv=>whnf
     refine hK _ _ ?_;clear hK hQ K;refine awp_seq2 fun K hK hQ=>?_
     conv=>whnf
     refine(rend_ok rb l3 _ S' hrs).mono ?_;rintro o T ⟨rfl,rfl⟩
     cases l3 with
     | nil=>
       simp only[if_true] at hK hQ ⊢;conv=>whnf
       refine hK _ _ ?_;clear hK hQ K;conv=>whnf
       refine⟨_,_,hrs,?_⟩;conv=>whnf
       refine⟨_,_,q2,?_⟩;conv=>whnf
       refine⟨_,_,St.upd_same _ _ _,?_⟩;conv=>whnf
       exact⟨_,_,⟨rfl,rfl⟩,hle _,⟨⟨rfl,rfl,⟨rfl,rfl⟩,⟨rfl,rfl⟩,rfl,⟨rfl,rfl⟩,⟨rfl,rfl⟩,rfl,rfl,rfl,rfl⟩,rfl,rfl⟩⟩
     | cons x l3=>
       simp only[reduceCtorEq,if_false] at hK hQ ⊢;conv=>whnf
       refine hK _ _ ?_;clear hK hQ K;conv=>whnf
       refine⟨_,_,hrs,?_⟩;conv=>whnf
       refine⟨_,_,q2,?_⟩;conv=>whnf
       refine⟨_,_,St.upd_same _ _ _,?_⟩;conv=>whnf
       exact⟨_,_,⟨rfl,rfl⟩,hle _,⟨⟨rfl,rfl,⟨rfl,rfl⟩,⟨rfl,rfl⟩,rfl,⟨rfl,rfl⟩,⟨rfl,rfl⟩,rfl,rfl,rfl,rfl⟩,AV.leS_refl _ _ _,rfl⟩⟩
    ·simp only[if_neg he] at hK hQ;simp only[errAV,if_neg he] at hK hQ ⊢;conv=>whnf
     refine hK _ _ ?_;clear hK hQ K;refine awp_seq2 fun K hK hQ=>?_
     conv=>whnf
     refine hK _ _ ?_;clear hK hQ K;conv=>whnf
     refine⟨_,_,hrs,?_⟩;conv=>whnf
     refine⟨_,_,q2,?_⟩;conv=>whnf
     refine⟨_,_,St.upd_same _ _ _,?_⟩;conv=>whnf
     exact⟨_,_,⟨rfl,rfl⟩,hle _,⟨⟨rfl,rfl,⟨rfl,rfl⟩,⟨rfl,rfl⟩,rfl,⟨rfl,rfl⟩,⟨rfl,rfl⟩,rfl,rfl,rfl,rfl⟩,AV.leS_refl _ _ _,rfl⟩⟩
   have n1:¬ w=kF:=of_decide_eq_false h
   conv=>whnf
   refine split_of (fun h=>?_) (fun h=>?_)
   ·have hh:w=kPol:=of_decide_eq_true h
    have hg:tabG w=some (polG):=by unfold tabG;rw[if_neg n0,if_neg n1,if_pos hh]
    have hf:=pol_ok (G:=G) hG ⟨_,hat3⟩ hw1 hv
    have hpw:parseW (w::l)=finG (polG l zeroV):=by unfold parseW;dsimp only;rw[hg]
    rw[hpw] at hK hQ;clear hpw hg;generalize polG l zeroV=r at *;obtain⟨e,l3,v3⟩:=r;dsimp only at hf;unfold finG at hK hQ;dsimp only at hK hQ;conv=>whnf
    refine hK _ _ ?_;clear hK hQ K;refine awp_seq2 fun K hK hQ=>?_
    conv=>whnf
    refine hK _ _ ?_;clear hK hQ K;refine awp_seq2 fun K hK hQ=>?_
    conv=>whnf
    refine hf.mono ?_;rintro o S' ⟨rfl,t3,hr⟩;have q2:=hr.le _ _ q20;have hle:=hz2 S' hr.le;have hrs:=hr.at_
    by_cases he:e=0
    ·simp only[if_pos he] at hK hQ;simp only[errAV,if_pos he];conv=>whnf
     refine hK _ _ ?_;clear hK hQ K;refine awp_seq2 fun K hK hQ=>?_
     conv=>whnf
     refine(rend_ok rb l3 _ S' hrs).mono ?_;rintro o T ⟨rfl,rfl⟩
     cases l3 with
     | nil=>
       simp only[if_true] at hK hQ ⊢;conv=>whnf
       refine hK _ _ ?_;clear hK hQ K;conv=>whnf
       refine⟨_,_,hrs,?_⟩;conv=>whnf
       refine⟨_,_,q2,?_⟩;conv=>whnf
       refine⟨_,_,St.upd_same _ _ _,?_⟩;conv=>whnf
       exact⟨_,_,⟨rfl,rfl⟩,hle _,⟨⟨rfl,rfl,⟨rfl,rfl⟩,⟨rfl,rfl⟩,rfl,⟨rfl,rfl⟩,⟨rfl,rfl⟩,rfl,rfl,rfl,rfl⟩,rfl,rfl⟩⟩
     | cons x l3=>
       simp only[reduceCtorEq,if_false] at hK hQ ⊢;conv=>whnf
       refine hK _ _ ?_;clear hK hQ K;conv=>whnf
       refine⟨_,_,hrs,?_⟩;conv=>whnf
       refine⟨_,_,q2,?_⟩;conv=>whnf
       refine⟨_,_,St.upd_same _ _ _,?_⟩;conv=>whnf
       exact⟨_,_,⟨rfl,rfl⟩,hle _,⟨⟨rfl,rfl,⟨rfl,rfl⟩,⟨rfl,rfl⟩,rfl,⟨rfl,rfl⟩,⟨rfl,rfl⟩,rfl,rfl,rfl,rfl⟩,AV.leS_refl _ _ _,rfl⟩⟩
    ·simp only[if_neg he] at hK hQ;simp only[errAV,if_neg he] at hK hQ ⊢;conv=>whnf
     refine hK _ _ ?_;clear hK hQ K;refine awp_seq2 fun K hK hQ=>?_
     conv=>whnf
     refine hK _ _ ?_;clear hK hQ K;conv=>whnf
     refine⟨_,_,hrs,?_⟩;conv=>whnf
     refine⟨_,_,q2,?_⟩;conv=>whnf
     refine⟨_,_,St.upd_same _ _ _,?_⟩;conv=>whnf
     exact⟨_,_,⟨rfl,rfl⟩,hle _,⟨⟨rfl,rfl,⟨rfl,rfl⟩,⟨rfl,rfl⟩,rfl,⟨rfl,rfl⟩,⟨rfl,rfl⟩,rfl,rfl,rfl,rfl⟩,AV.leS_refl _ _ _,rfl⟩⟩
   have n2:¬ w=kPol:=of_decide_eq_false h
   conv=>whnf
   refine split_of (fun h=>?_) (fun h=>?_)
   ·have hh:w=kRup:=of_decide_eq_true h
    have hg:tabG w=some (rupG):=by unfold tabG;rw[if_neg n0,if_neg n1,if_neg n2,if_pos hh]
    have hf:=rup_ok (G:=G) hG ⟨_,hat3⟩ hw1 hv
    have hpw:parseW (w::l)=finG (rupG l zeroV):=by unfold parseW;dsimp only;rw[hg]
    rw[hpw] at hK hQ;clear hpw hg;generalize rupG l zeroV=r at *;obtain⟨e,l3,v3⟩:=r;dsimp only at hf;unfold finG at hK hQ;dsimp only at hK hQ;conv=>whnf
    refine hK _ _ ?_;clear hK hQ K;refine awp_seq2 fun K hK hQ=>?_
    conv=>whnf
    refine hK _ _ ?_;clear hK hQ K;refine awp_seq2 fun K hK hQ=>?_
    conv=>whnf
    refine hf.mono ?_;rintro o S' ⟨rfl,t3,hr⟩;have q2:=hr.le _ _ q20;have hle:=hz2 S' hr.le;have hrs:=hr.at_
    by_cases he:e=0
    ·simp only[if_pos he] at hK hQ;simp only[errAV,if_pos he];conv=>whnf
     refine hK _ _ ?_;clear hK hQ K;refine awp_seq2 fun K hK hQ=>?_
     conv=>whnf
     refine(rend_ok rb l3 _ S' hrs).mono ?_;rintro o T ⟨rfl,rfl⟩
     cases l3 with
     | nil=>
       simp only[if_true] at hK hQ ⊢;conv=>whnf
       refine hK _ _ ?_;clear hK hQ K;conv=>whnf
       refine⟨_,_,hrs,?_⟩;conv=>whnf
       refine⟨_,_,q2,?_⟩;conv=>whnf
       refine⟨_,_,St.upd_same _ _ _,?_⟩;conv=>whnf
       exact⟨_,_,⟨rfl,rfl⟩,hle _,⟨⟨rfl,rfl,⟨rfl,rfl⟩,⟨rfl,rfl⟩,rfl,⟨rfl,rfl⟩,⟨rfl,rfl⟩,rfl,rfl,rfl,rfl⟩,rfl,rfl⟩⟩
     | cons x l3=>
       simp only[reduceCtorEq,if_false] at hK hQ ⊢;conv=>whnf
       refine hK _ _ ?_;clear hK hQ K;conv=>whnf
       refine⟨_,_,hrs,?_⟩;conv=>whnf
       refine⟨_,_,q2,?_⟩;conv=>whnf
       refine⟨_,_,St.upd_same _ _ _,?_⟩;conv=>whnf
       exact⟨_,_,⟨rfl,rfl⟩,hle _,⟨⟨rfl,rfl,⟨rfl,rfl⟩,⟨rfl,rfl⟩,rfl,⟨rfl,rfl⟩,⟨rfl,rfl⟩,rfl,rfl,rfl,rfl⟩,AV.leS_refl _ _ _,rfl⟩⟩
    ·simp only[if_neg he] at hK hQ;simp only[errAV,if_neg he] at hK hQ ⊢;conv=>whnf
     refine hK _ _ ?_;clear hK hQ K;refine awp_seq2 fun K hK hQ=>?_
     conv=>whnf
     refine hK _ _ ?_;clear hK hQ K;conv=>whnf
     refine⟨_,_,hrs,?_⟩;conv=>whnf
     refine⟨_,_,q2,?_⟩;conv=>whnf
     refine⟨_,_,St.upd_same _ _ _,?_⟩;conv=>whnf
     exact⟨_,_,⟨rfl,rfl⟩,hle _,⟨⟨rfl,rfl,⟨rfl,rfl⟩,⟨rfl,rfl⟩,rfl,⟨rfl,rfl⟩,⟨rfl,rfl⟩,rfl,rfl,rfl,rfl⟩,AV.leS_refl _ _ _,rfl⟩⟩
   have n3:¬ w=kRup:=of_decide_eq_false h
   conv=>whnf
   refine split_of (fun h=>?_) (fun h=>?_)
   ·have hh:w=kSoli:=of_decide_eq_true h
    have hg:tabG w=some (solG 5):=by unfold tabG;rw[if_neg n0,if_neg n1,if_neg n2,if_neg n3,if_pos hh]
    have hf:=soli_ok (G:=G) hG ⟨_,hat3⟩ hw1 hv
    have hpw:parseW (w::l)=finG (solG 5 l zeroV):=by unfold parseW;dsimp only;rw[hg]
    rw[hpw] at hK hQ;clear hpw hg;generalize solG 5 l zeroV=r at *;obtain⟨e,l3,v3⟩:=r;dsimp only at hf;unfold finG at hK hQ;dsimp only at hK hQ;conv=>whnf
    refine hK _ _ ?_;clear hK hQ K;refine awp_seq2 fun K hK hQ=>?_
    conv=>whnf
    refine hK _ _ ?_;clear hK hQ K;refine awp_seq2 fun K hK hQ=>?_
    conv=>whnf
    refine hf.mono ?_;rintro o S' ⟨rfl,t3,hr⟩;have q2:=hr.le _ _ q20;have hle:=hz2 S' hr.le;have hrs:=hr.at_
    by_cases he:e=0
    ·simp only[if_pos he] at hK hQ;simp only[errAV,if_pos he];conv=>whnf
     refine hK _ _ ?_;clear hK hQ K;refine awp_seq2 fun K hK hQ=>?_
     conv=>whnf
     refine(rend_ok rb l3 _ S' hrs).mono ?_;rintro o T ⟨rfl,rfl⟩
     cases l3 with
     | nil=>
       simp only[if_true] at hK hQ ⊢;conv=>whnf
       refine hK _ _ ?_;clear hK hQ K;conv=>whnf
       refine⟨_,_,hrs,?_⟩;conv=>whnf
       refine⟨_,_,q2,?_⟩;conv=>whnf
       refine⟨_,_,St.upd_same _ _ _,?_⟩;conv=>whnf
       exact⟨_,_,⟨rfl,rfl⟩,hle _,⟨⟨rfl,rfl,⟨rfl,rfl⟩,⟨rfl,rfl⟩,rfl,⟨rfl,rfl⟩,⟨rfl,rfl⟩,rfl,rfl,rfl,rfl⟩,rfl,rfl⟩⟩
     | cons x l3=>
       simp only[reduceCtorEq,if_false] at hK hQ ⊢;conv=>whnf
       refine hK _ _ ?_;clear hK hQ K;conv=>whnf
       refine⟨_,_,hrs,?_⟩;conv=>whnf
       refine⟨_,_,q2,?_⟩;conv=>whnf
       refine⟨_,_,St.upd_same _ _ _,?_⟩;conv=>whnf
       exact⟨_,_,⟨rfl,rfl⟩,hle _,⟨⟨rfl,rfl,⟨rfl,rfl⟩,⟨rfl,rfl⟩,rfl,⟨rfl,rfl⟩,⟨rfl,rfl⟩,rfl,rfl,rfl,rfl⟩,AV.leS_refl _ _ _,rfl⟩⟩
    ·simp only[if_neg he] at hK hQ;simp only[errAV,if_neg he] at hK hQ ⊢;conv=>whnf
     refine hK _ _ ?_;clear hK hQ K;refine awp_seq2 fun K hK hQ=>?_
     conv=>whnf
     refine hK _ _ ?_;clear hK hQ K;conv=>whnf
     refine⟨_,_,hrs,?_⟩;conv=>whnf
     refine⟨_,_,q2,?_⟩;conv=>whnf
     refine⟨_,_,St.upd_same _ _ _,?_⟩;conv=>whnf
     exact⟨_,_,⟨rfl,rfl⟩,hle _,⟨⟨rfl,rfl,⟨rfl,rfl⟩,⟨rfl,rfl⟩,rfl,⟨rfl,rfl⟩,⟨rfl,rfl⟩,rfl,rfl,rfl,rfl⟩,AV.leS_refl _ _ _,rfl⟩⟩
   have n4:¬ w=kSoli:=of_decide_eq_false h
   conv=>whnf
   refine split_of (fun h=>?_) (fun h=>?_)
   ·have hh:w=kSolx:=of_decide_eq_true h
    have hg:tabG w=some (solG 11):=by unfold tabG;rw[if_neg n0,if_neg n1,if_neg n2,if_neg n3,if_neg n4,if_pos hh]
    have hf:=solx_ok (G:=G) hG ⟨_,hat3⟩ hw1 hv
    have hpw:parseW (w::l)=finG (solG 11 l zeroV):=by unfold parseW;dsimp only;rw[hg]
    rw[hpw] at hK hQ;clear hpw hg;generalize solG 11 l zeroV=r at *;obtain⟨e,l3,v3⟩:=r;dsimp only at hf;unfold finG at hK hQ;dsimp only at hK hQ;conv=>whnf
    refine hK _ _ ?_;clear hK hQ K;refine awp_seq2 fun K hK hQ=>?_
    conv=>whnf
    refine hK _ _ ?_;clear hK hQ K;refine awp_seq2 fun K hK hQ=>?_
    conv=>whnf
    refine hf.mono ?_;rintro o S' ⟨rfl,t3,hr⟩;have q2:=hr.le _ _ q20;have hle:=hz2 S' hr.le;have hrs:=hr.at_
    by_cases he:e=0
    ·simp only[if_pos he] at hK hQ;simp only[errAV,if_pos he];conv=>whnf
     refine hK _ _ ?_;clear hK hQ K;refine awp_seq2 fun K hK hQ=>?_
     conv=>whnf
     refine(rend_ok rb l3 _ S' hrs).mono ?_;rintro o T ⟨rfl,rfl⟩
     cases l3 with
     | nil=>
       simp only[if_true] at hK hQ ⊢;conv=>whnf
       refine hK _ _ ?_;clear hK hQ K;conv=>whnf
       refine⟨_,_,hrs,?_⟩;conv=>whnf
       refine⟨_,_,q2,?_⟩;conv=>whnf
       refine⟨_,_,St.upd_same _ _ _,?_⟩;conv=>whnf
       exact⟨_,_,⟨rfl,rfl⟩,hle _,⟨⟨rfl,rfl,⟨rfl,rfl⟩,⟨rfl,rfl⟩,rfl,⟨rfl,rfl⟩,⟨rfl,rfl⟩,rfl,rfl,rfl,rfl⟩,rfl,rfl⟩⟩
     | cons x l3=>
       simp only[reduceCtorEq,if_false] at hK hQ ⊢;conv=>whnf
       refine hK _ _ ?_;clear hK hQ K;conv=>whnf
       refine⟨_,_,hrs,?_⟩;conv=>whnf
       refine⟨_,_,q2,?_⟩;conv=>whnf
       refine⟨_,_,St.upd_same _ _ _,?_⟩;conv=>whnf
       exact⟨_,_,⟨rfl,rfl⟩,hle _,⟨⟨rfl,rfl,⟨rfl,rfl⟩,⟨rfl,rfl⟩,rfl,⟨rfl,rfl⟩,⟨rfl,rfl⟩,rfl,rfl,rfl,rfl⟩,AV.leS_refl _ _ _,rfl⟩⟩
    ·simp only[if_neg he] at hK hQ;simp only[errAV,if_neg he] at hK hQ ⊢;conv=>whnf
     refine hK _ _ ?_;clear hK hQ K;refine awp_seq2 fun K hK hQ=>?_
     conv=>whnf
     refine hK _ _ ?_;clear hK hQ K;conv=>whnf
     refine⟨_,_,hrs,?_⟩;conv=>whnf
     refine⟨_,_,q2,?_⟩;conv=>whnf
     refine⟨_,_,St.upd_same _ _ _,?_⟩;conv=>whnf
     exact⟨_,_,⟨rfl,rfl⟩,hle _,⟨⟨rfl,rfl,⟨rfl,rfl⟩,⟨rfl,rfl⟩,rfl,⟨rfl,rfl⟩,⟨rfl,rfl⟩,rfl,rfl,rfl,rfl⟩,AV.leS_refl _ _ _,rfl⟩⟩
   have n5:¬ w=kSolx:=of_decide_eq_false h
   conv=>whnf
   refine split_of (fun h=>?_) (fun h=>?_)
   ·have hh:w=kE:=of_decide_eq_true h
    have hg:tabG w=some (sameG):=by unfold tabG;rw[if_neg n0,if_neg n1,if_neg n2,if_neg n3,if_neg n4,if_neg n5,if_pos hh]
    have hf:=same_ok (G:=G) hG ⟨_,hat3⟩ hw1 hv
    have hpw:parseW (w::l)=finG (sameG l zeroV):=by unfold parseW;dsimp only;rw[hg]
    rw[hpw] at hK hQ;clear hpw hg;generalize sameG l zeroV=r at *;obtain⟨e,l3,v3⟩:=r;dsimp only at hf;unfold finG at hK hQ;dsimp only at hK hQ;conv=>whnf
    refine hK _ _ ?_;clear hK hQ K;refine awp_seq2 fun K hK hQ=>?_
    conv=>whnf
    refine hK _ _ ?_;clear hK hQ K;refine awp_seq2 fun K hK hQ=>?_
    conv=>whnf
    refine hf.mono ?_;rintro o S' ⟨rfl,t3,hr⟩;have q2:=hr.le _ _ q20;have hle:=hz2 S' hr.le;have hrs:=hr.at_
    by_cases he:e=0
    ·simp only[if_pos he] at hK hQ;simp only[errAV,if_pos he];conv=>whnf
     refine hK _ _ ?_;clear hK hQ K;refine awp_seq2 fun K hK hQ=>?_
     conv=>whnf
     refine(rend_ok rb l3 _ S' hrs).mono ?_;rintro o T ⟨rfl,rfl⟩
     cases l3 with
     | nil=>
       simp only[if_true] at hK hQ ⊢;conv=>whnf
       refine hK _ _ ?_;clear hK hQ K;conv=>whnf
       refine⟨_,_,hrs,?_⟩;conv=>whnf
       refine⟨_,_,q2,?_⟩;conv=>whnf
       refine⟨_,_,St.upd_same _ _ _,?_⟩;conv=>whnf
       exact⟨_,_,⟨rfl,rfl⟩,hle _,⟨⟨rfl,rfl,⟨rfl,rfl⟩,⟨rfl,rfl⟩,rfl,⟨rfl,rfl⟩,⟨rfl,rfl⟩,rfl,rfl,rfl,rfl⟩,rfl,rfl⟩⟩
     | cons x l3=>
       simp only[reduceCtorEq,if_false] at hK hQ ⊢;conv=>whnf
       refine hK _ _ ?_;clear hK hQ K;conv=>whnf
       refine⟨_,_,hrs,?_⟩;conv=>whnf
       refine⟨_,_,q2,?_⟩;conv=>whnf
       refine⟨_,_,St.upd_same _ _ _,?_⟩;conv=>whnf
       exact⟨_,_,⟨rfl,rfl⟩,hle _,⟨⟨rfl,rfl,⟨rfl,rfl⟩,⟨rfl,rfl⟩,rfl,⟨rfl,rfl⟩,⟨rfl,rfl⟩,rfl,rfl,rfl,rfl⟩,AV.leS_refl _ _ _,rfl⟩⟩
    ·simp only[if_neg he] at hK hQ;simp only[errAV,if_neg he] at hK hQ ⊢;conv=>whnf
     refine hK _ _ ?_;clear hK hQ K;refine awp_seq2 fun K hK hQ=>?_
     conv=>whnf
     refine hK _ _ ?_;clear hK hQ K;conv=>whnf
     refine⟨_,_,hrs,?_⟩;conv=>whnf
     refine⟨_,_,q2,?_⟩;conv=>whnf
     refine⟨_,_,St.upd_same _ _ _,?_⟩;conv=>whnf
     exact⟨_,_,⟨rfl,rfl⟩,hle _,⟨⟨rfl,rfl,⟨rfl,rfl⟩,⟨rfl,rfl⟩,rfl,⟨rfl,rfl⟩,⟨rfl,rfl⟩,rfl,rfl,rfl,rfl⟩,AV.leS_refl _ _ _,rfl⟩⟩
   have n6:¬ w=kE:=of_decide_eq_false h
   conv=>whnf
   refine split_of (fun h=>?_) (fun h=>?_)
   ·have hh:w=kDel:=of_decide_eq_true h
    have hg:tabG w=some (delG):=by unfold tabG;rw[if_neg n0,if_neg n1,if_neg n2,if_neg n3,if_neg n4,if_neg n5,if_neg n6,if_pos hh]
    have hf:=del_ok (G:=G) ⟨_,hat3⟩ hw1 hv
    have hpw:parseW (w::l)=finG (delG l zeroV):=by unfold parseW;dsimp only;rw[hg]
    rw[hpw] at hK hQ;clear hpw hg;generalize delG l zeroV=r at *;obtain⟨e,l3,v3⟩:=r;dsimp only at hf;unfold finG at hK hQ;dsimp only at hK hQ;conv=>whnf
    refine hK _ _ ?_;clear hK hQ K;refine awp_seq2 fun K hK hQ=>?_
    conv=>whnf
    refine hK _ _ ?_;clear hK hQ K;refine awp_seq2 fun K hK hQ=>?_
    conv=>whnf
    refine hf.mono ?_;rintro o S' ⟨rfl,t3,hr⟩;have q2:=hr.le _ _ q20;have hle:=hz2 S' hr.le;have hrs:=hr.at_
    by_cases he:e=0
    ·simp only[if_pos he] at hK hQ;simp only[errAV,if_pos he];conv=>whnf
     refine hK _ _ ?_;clear hK hQ K;refine awp_seq2 fun K hK hQ=>?_
     conv=>whnf
     refine(rend_ok rb l3 _ S' hrs).mono ?_;rintro o T ⟨rfl,rfl⟩
     cases l3 with
     | nil=>
       simp only[if_true] at hK hQ ⊢;conv=>whnf
       refine hK _ _ ?_;clear hK hQ K;conv=>whnf
       refine⟨_,_,hrs,?_⟩;conv=>whnf
       refine⟨_,_,q2,?_⟩;conv=>whnf
       refine⟨_,_,St.upd_same _ _ _,?_⟩;conv=>whnf
       exact⟨_,_,⟨rfl,rfl⟩,hle _,⟨⟨rfl,rfl,⟨rfl,rfl⟩,⟨rfl,rfl⟩,rfl,⟨rfl,rfl⟩,⟨rfl,rfl⟩,rfl,rfl,rfl,rfl⟩,rfl,rfl⟩⟩
     | cons x l3=>
       simp only[reduceCtorEq,if_false] at hK hQ ⊢;conv=>whnf
       refine hK _ _ ?_;clear hK hQ K;conv=>whnf
       refine⟨_,_,hrs,?_⟩;conv=>whnf
       refine⟨_,_,q2,?_⟩;conv=>whnf
       refine⟨_,_,St.upd_same _ _ _,?_⟩;conv=>whnf
       exact⟨_,_,⟨rfl,rfl⟩,hle _,⟨⟨rfl,rfl,⟨rfl,rfl⟩,⟨rfl,rfl⟩,rfl,⟨rfl,rfl⟩,⟨rfl,rfl⟩,rfl,rfl,rfl,rfl⟩,AV.leS_refl _ _ _,rfl⟩⟩
    ·simp only[if_neg he] at hK hQ;simp only[errAV,if_neg he] at hK hQ ⊢;conv=>whnf
     refine hK _ _ ?_;clear hK hQ K;refine awp_seq2 fun K hK hQ=>?_
     conv=>whnf
     refine hK _ _ ?_;clear hK hQ K;conv=>whnf
     refine⟨_,_,hrs,?_⟩;conv=>whnf
     refine⟨_,_,q2,?_⟩;conv=>whnf
     refine⟨_,_,St.upd_same _ _ _,?_⟩;conv=>whnf
     exact⟨_,_,⟨rfl,rfl⟩,hle _,⟨⟨rfl,rfl,⟨rfl,rfl⟩,⟨rfl,rfl⟩,rfl,⟨rfl,rfl⟩,⟨rfl,rfl⟩,rfl,rfl,rfl,rfl⟩,AV.leS_refl _ _ _,rfl⟩⟩
   have n7:¬ w=kDel:=of_decide_eq_false h
   conv=>whnf
   refine split_of (fun h=>?_) (fun h=>?_)
   ·have hh:w=kStar:=of_decide_eq_true h
    have hg:tabG w=some (noteG):=by unfold tabG;rw[if_neg n0,if_neg n1,if_neg n2,if_neg n3,if_neg n4,if_neg n5,if_neg n6,if_neg n7,if_pos hh]
    have hf:=note_ok (G:=G) ⟨_,hat3⟩
    have hpw:parseW (w::l)=finG (noteG l zeroV):=by unfold parseW;dsimp only;rw[hg]
    rw[hpw] at hK hQ;clear hpw hg;generalize noteG l zeroV=r at *;obtain⟨e,l3,v3⟩:=r;dsimp only at hf;unfold finG at hK hQ;dsimp only at hK hQ;conv=>whnf
    refine hK _ _ ?_;clear hK hQ K;refine awp_seq2 fun K hK hQ=>?_
    conv=>whnf
    refine hK _ _ ?_;clear hK hQ K;refine awp_seq2 fun K hK hQ=>?_
    conv=>whnf
    refine hf.mono ?_;rintro o S' ⟨rfl,t3,hr⟩;have q2:=hr.le _ _ q20;have hle:=hz2 S' hr.le;have hrs:=hr.at_
    by_cases he:e=0
    ·simp only[if_pos he] at hK hQ;simp only[errAV,if_pos he];conv=>whnf
     refine hK _ _ ?_;clear hK hQ K;refine awp_seq2 fun K hK hQ=>?_
     conv=>whnf
     refine(rend_ok rb l3 _ S' hrs).mono ?_;rintro o T ⟨rfl,rfl⟩
     cases l3 with
     | nil=>
       simp only[if_true] at hK hQ ⊢;conv=>whnf
       refine hK _ _ ?_;clear hK hQ K;conv=>whnf
       refine⟨_,_,hrs,?_⟩;conv=>whnf
       refine⟨_,_,q2,?_⟩;conv=>whnf
       refine⟨_,_,St.upd_same _ _ _,?_⟩;conv=>whnf
       exact⟨_,_,⟨rfl,rfl⟩,hle _,⟨⟨rfl,rfl,⟨rfl,rfl⟩,⟨rfl,rfl⟩,rfl,⟨rfl,rfl⟩,⟨rfl,rfl⟩,rfl,rfl,rfl,rfl⟩,rfl,rfl⟩⟩
     | cons x l3=>
       simp only[reduceCtorEq,if_false] at hK hQ ⊢;conv=>whnf
       refine hK _ _ ?_;clear hK hQ K;conv=>whnf
       refine⟨_,_,hrs,?_⟩;conv=>whnf
       refine⟨_,_,q2,?_⟩;conv=>whnf
       refine⟨_,_,St.upd_same _ _ _,?_⟩;conv=>whnf
       exact⟨_,_,⟨rfl,rfl⟩,hle _,⟨⟨rfl,rfl,⟨rfl,rfl⟩,⟨rfl,rfl⟩,rfl,⟨rfl,rfl⟩,⟨rfl,rfl⟩,rfl,rfl,rfl,rfl⟩,AV.leS_refl _ _ _,rfl⟩⟩
    ·simp only[if_neg he] at hK hQ;simp only[errAV,if_neg he] at hK hQ ⊢;conv=>whnf
     refine hK _ _ ?_;clear hK hQ K;refine awp_seq2 fun K hK hQ=>?_
     conv=>whnf
     refine hK _ _ ?_;clear hK hQ K;conv=>whnf
     refine⟨_,_,hrs,?_⟩;conv=>whnf
     refine⟨_,_,q2,?_⟩;conv=>whnf
     refine⟨_,_,St.upd_same _ _ _,?_⟩;conv=>whnf
     exact⟨_,_,⟨rfl,rfl⟩,hle _,⟨⟨rfl,rfl,⟨rfl,rfl⟩,⟨rfl,rfl⟩,rfl,⟨rfl,rfl⟩,⟨rfl,rfl⟩,rfl,rfl,rfl,rfl⟩,AV.leS_refl _ _ _,rfl⟩⟩
   have n8:¬ w=kStar:=of_decide_eq_false h
   conv=>whnf
   refine split_of (fun h=>?_) (fun h=>?_)
   ·have hh:w=kOut:=of_decide_eq_true h
    have hg:tabG w=some (fixG 8 outputWords):=by unfold tabG;rw[if_neg n0,if_neg n1,if_neg n2,if_neg n3,if_neg n4,if_neg n5,if_neg n6,if_neg n7,if_neg n8,if_pos hh]
    have hf:=output_ok (G:=G) ⟨_,hat3⟩
    have hpw:parseW (w::l)=finG (fixG 8 outputWords l zeroV):=by unfold parseW;dsimp only;rw[hg]
    rw[hpw] at hK hQ;clear hpw hg;generalize fixG 8 outputWords l zeroV=r at *;obtain⟨e,l3,v3⟩:=r;dsimp only at hf;unfold finG at hK hQ;dsimp only at hK hQ;conv=>whnf
    refine hK _ _ ?_;clear hK hQ K;refine awp_seq2 fun K hK hQ=>?_
    conv=>whnf
    refine hK _ _ ?_;clear hK hQ K;refine awp_seq2 fun K hK hQ=>?_
    conv=>whnf
    refine hf.mono ?_;rintro o S' ⟨rfl,t3,hr⟩;have q2:=hr.le _ _ q20;have hle:=hz2 S' hr.le;have hrs:=hr.at_
    by_cases he:e=0
    ·simp only[if_pos he] at hK hQ;simp only[errAV,if_pos he];conv=>whnf
     refine hK _ _ ?_;clear hK hQ K;refine awp_seq2 fun K hK hQ=>?_
     conv=>whnf
     refine(rend_ok rb l3 _ S' hrs).mono ?_;rintro o T ⟨rfl,rfl⟩
     cases l3 with
     | nil=>
       simp only[if_true] at hK hQ ⊢;conv=>whnf
       refine hK _ _ ?_;clear hK hQ K;conv=>whnf
       refine⟨_,_,hrs,?_⟩;conv=>whnf
       refine⟨_,_,q2,?_⟩;conv=>whnf
       refine⟨_,_,St.upd_same _ _ _,?_⟩;conv=>whnf
       exact⟨_,_,⟨rfl,rfl⟩,hle _,⟨⟨rfl,rfl,⟨rfl,rfl⟩,⟨rfl,rfl⟩,rfl,⟨rfl,rfl⟩,⟨rfl,rfl⟩,rfl,rfl,rfl,rfl⟩,rfl,rfl⟩⟩
     | cons x l3=>
       simp only[reduceCtorEq,if_false] at hK hQ ⊢;conv=>whnf
       refine hK _ _ ?_;clear hK hQ K;conv=>whnf
       refine⟨_,_,hrs,?_⟩;conv=>whnf
       refine⟨_,_,q2,?_⟩;conv=>whnf
       refine⟨_,_,St.upd_same _ _ _,?_⟩;conv=>whnf
       exact⟨_,_,⟨rfl,rfl⟩,hle _,⟨⟨rfl,rfl,⟨rfl,rfl⟩,⟨rfl,rfl⟩,rfl,⟨rfl,rfl⟩,⟨rfl,rfl⟩,rfl,rfl,rfl,rfl⟩,AV.leS_refl _ _ _,rfl⟩⟩
    ·simp only[if_neg he] at hK hQ;simp only[errAV,if_neg he] at hK hQ ⊢;conv=>whnf
     refine hK _ _ ?_;clear hK hQ K;refine awp_seq2 fun K hK hQ=>?_
     conv=>whnf
     refine hK _ _ ?_;clear hK hQ K;conv=>whnf
     refine⟨_,_,hrs,?_⟩;conv=>whnf
     refine⟨_,_,q2,?_⟩;conv=>whnf
     refine⟨_,_,St.upd_same _ _ _,?_⟩;conv=>whnf
     exact⟨_,_,⟨rfl,rfl⟩,hle _,⟨⟨rfl,rfl,⟨rfl,rfl⟩,⟨rfl,rfl⟩,rfl,⟨rfl,rfl⟩,⟨rfl,rfl⟩,rfl,rfl,rfl,rfl⟩,AV.leS_refl _ _ _,rfl⟩⟩
   have n9:¬ w=kOut:=of_decide_eq_false h
   conv=>whnf
   refine split_of (fun h=>?_) (fun h=>?_)
   ·have hh:w=kConc:=of_decide_eq_true h
    have hg:tabG w=some (conclG):=by unfold tabG;rw[if_neg n0,if_neg n1,if_neg n2,if_neg n3,if_neg n4,if_neg n5,if_neg n6,if_neg n7,if_neg n8,if_neg n9,if_pos hh]
    have hf:=conclusion_ok (G:=G) ⟨_,hat3⟩ hw1
    have hpw:parseW (w::l)=finG (conclG l zeroV):=by unfold parseW;dsimp only;rw[hg]
    rw[hpw] at hK hQ;clear hpw hg;generalize conclG l zeroV=r at *;obtain⟨e,l3,v3⟩:=r;dsimp only at hf;unfold finG at hK hQ;dsimp only at hK hQ;conv=>whnf
    refine hK _ _ ?_;clear hK hQ K;refine awp_seq2 fun K hK hQ=>?_
    conv=>whnf
    refine hK _ _ ?_;clear hK hQ K;refine awp_seq2 fun K hK hQ=>?_
    conv=>whnf
    refine hf.mono ?_;rintro o S' ⟨rfl,t3,hr⟩;have q2:=hr.le _ _ q20;have hle:=hz2 S' hr.le;have hrs:=hr.at_
    by_cases he:e=0
    ·simp only[if_pos he] at hK hQ;simp only[errAV,if_pos he];conv=>whnf
     refine hK _ _ ?_;clear hK hQ K;refine awp_seq2 fun K hK hQ=>?_
     conv=>whnf
     refine(rend_ok rb l3 _ S' hrs).mono ?_;rintro o T ⟨rfl,rfl⟩
     cases l3 with
     | nil=>
       simp only[if_true] at hK hQ ⊢;conv=>whnf
       refine hK _ _ ?_;clear hK hQ K;conv=>whnf
       refine⟨_,_,hrs,?_⟩;conv=>whnf
       refine⟨_,_,q2,?_⟩;conv=>whnf
       refine⟨_,_,St.upd_same _ _ _,?_⟩;conv=>whnf
       exact⟨_,_,⟨rfl,rfl⟩,hle _,⟨⟨rfl,rfl,⟨rfl,rfl⟩,⟨rfl,rfl⟩,rfl,⟨rfl,rfl⟩,⟨rfl,rfl⟩,rfl,rfl,rfl,rfl⟩,rfl,rfl⟩⟩
     | cons x l3=>
       simp only[reduceCtorEq,if_false] at hK hQ ⊢;conv=>whnf
       refine hK _ _ ?_;clear hK hQ K;conv=>whnf
       refine⟨_,_,hrs,?_⟩;conv=>whnf
       refine⟨_,_,q2,?_⟩;conv=>whnf
       refine⟨_,_,St.upd_same _ _ _,?_⟩;conv=>whnf
       exact⟨_,_,⟨rfl,rfl⟩,hle _,⟨⟨rfl,rfl,⟨rfl,rfl⟩,⟨rfl,rfl⟩,rfl,⟨rfl,rfl⟩,⟨rfl,rfl⟩,rfl,rfl,rfl,rfl⟩,AV.leS_refl _ _ _,rfl⟩⟩
    ·simp only[if_neg he] at hK hQ;simp only[errAV,if_neg he] at hK hQ ⊢;conv=>whnf
     refine hK _ _ ?_;clear hK hQ K;refine awp_seq2 fun K hK hQ=>?_
     conv=>whnf
     refine hK _ _ ?_;clear hK hQ K;conv=>whnf
     refine⟨_,_,hrs,?_⟩;conv=>whnf
     refine⟨_,_,q2,?_⟩;conv=>whnf
     refine⟨_,_,St.upd_same _ _ _,?_⟩;conv=>whnf
     exact⟨_,_,⟨rfl,rfl⟩,hle _,⟨⟨rfl,rfl,⟨rfl,rfl⟩,⟨rfl,rfl⟩,rfl,⟨rfl,rfl⟩,⟨rfl,rfl⟩,rfl,rfl,rfl,rfl⟩,AV.leS_refl _ _ _,rfl⟩⟩
   have n10:¬ w=kConc:=of_decide_eq_false h
   conv=>whnf
   refine split_of (fun h=>?_) (fun h=>?_)
   ·have hh:w=kEnd:=of_decide_eq_true h
    have hg:tabG w=some (fixG 10 lastWords):=by unfold tabG;rw[if_neg n0,if_neg n1,if_neg n2,if_neg n3,if_neg n4,if_neg n5,if_neg n6,if_neg n7,if_neg n8,if_neg n9,if_neg n10,if_pos hh]
    have hf:=last_ok (G:=G) ⟨_,hat3⟩
    have hpw:parseW (w::l)=finG (fixG 10 lastWords l zeroV):=by unfold parseW;dsimp only;rw[hg]
    rw[hpw] at hK hQ;clear hpw hg;generalize fixG 10 lastWords l zeroV=r at *;obtain⟨e,l3,v3⟩:=r;dsimp only at hf;unfold finG at hK hQ;dsimp only at hK hQ;conv=>whnf
    refine hK _ _ ?_;clear hK hQ K;refine awp_seq2 fun K hK hQ=>?_
    conv=>whnf
    refine hK _ _ ?_;clear hK hQ K;refine awp_seq2 fun K hK hQ=>?_
    conv=>whnf
    refine hf.mono ?_;rintro o S' ⟨rfl,t3,hr⟩;have q2:=hr.le _ _ q20;have hle:=hz2 S' hr.le;have hrs:=hr.at_
    by_cases he:e=0
    ·simp only[if_pos he] at hK hQ;simp only[errAV,if_pos he];conv=>whnf
     refine hK _ _ ?_;clear hK hQ K;refine awp_seq2 fun K hK hQ=>?_
     conv=>whnf
     refine(rend_ok rb l3 _ S' hrs).mono ?_;rintro o T ⟨rfl,rfl⟩
     cases l3 with
     | nil=>
       simp only[if_true] at hK hQ ⊢;conv=>whnf
       refine hK _ _ ?_;clear hK hQ K;conv=>whnf
       refine⟨_,_,hrs,?_⟩;conv=>whnf
       refine⟨_,_,q2,?_⟩;conv=>whnf
       refine⟨_,_,St.upd_same _ _ _,?_⟩;conv=>whnf
       exact⟨_,_,⟨rfl,rfl⟩,hle _,⟨⟨rfl,rfl,⟨rfl,rfl⟩,⟨rfl,rfl⟩,rfl,⟨rfl,rfl⟩,⟨rfl,rfl⟩,rfl,rfl,rfl,rfl⟩,rfl,rfl⟩⟩
     | cons x l3=>
       simp only[reduceCtorEq,if_false] at hK hQ ⊢;conv=>whnf
       refine hK _ _ ?_;clear hK hQ K;conv=>whnf
       refine⟨_,_,hrs,?_⟩;conv=>whnf
       refine⟨_,_,q2,?_⟩;conv=>whnf
       refine⟨_,_,St.upd_same _ _ _,?_⟩;conv=>whnf
       exact⟨_,_,⟨rfl,rfl⟩,hle _,⟨⟨rfl,rfl,⟨rfl,rfl⟩,⟨rfl,rfl⟩,rfl,⟨rfl,rfl⟩,⟨rfl,rfl⟩,rfl,rfl,rfl,rfl⟩,AV.leS_refl _ _ _,rfl⟩⟩
    ·simp only[if_neg he] at hK hQ;simp only[errAV,if_neg he] at hK hQ ⊢;conv=>whnf
     refine hK _ _ ?_;clear hK hQ K;refine awp_seq2 fun K hK hQ=>?_
     conv=>whnf
     refine hK _ _ ?_;clear hK hQ K;conv=>whnf
     refine⟨_,_,hrs,?_⟩;conv=>whnf
     refine⟨_,_,q2,?_⟩;conv=>whnf
     refine⟨_,_,St.upd_same _ _ _,?_⟩;conv=>whnf
     exact⟨_,_,⟨rfl,rfl⟩,hle _,⟨⟨rfl,rfl,⟨rfl,rfl⟩,⟨rfl,rfl⟩,rfl,⟨rfl,rfl⟩,⟨rfl,rfl⟩,rfl,rfl,rfl,rfl⟩,AV.leS_refl _ _ _,rfl⟩⟩
   have n11:¬ w=kEnd:=of_decide_eq_false h
   conv=>whnf
   have hg:tabG w=none:=by unfold tabG;rw[if_neg n0,if_neg n1,if_neg n2,if_neg n3,if_neg n4,if_neg n5,if_neg n6,if_neg n7,if_neg n8,if_neg n9,if_neg n10,if_neg n11]
   have hpw:parseW (w::l)=(zeroV,80):=by unfold parseW;dsimp only;rw[hg]
   rw[hpw] at hK hQ;have q2:=hat3.le _ _ q20;have hle:=hz2 S2 hat3.le;refine hK _ _ ?_;clear hK;refine awp_seq2 fun K hK hQ'=>?_
   conv=>whnf
   refine(fail_ok 80 _).mono ?_;rintro o S' ⟨rfl,rfl⟩;conv=>whnf
   refine⟨_,_,q2,?_⟩;conv=>whnf
   refine hQ' _ _ _ (by simp) ?_
   conv=>whnf
   refine⟨_,_,St.upd_same _ _ _,?_⟩;conv=>whnf
   exact⟨_,_,⟨rfl,rfl⟩,hle _,⟨⟨rfl,rfl,rfl,rfl,rfl,rfl,rfl,rfl,rfl,rfl,rfl⟩,AV.leS_refl _ _ _,rfl⟩⟩
def Agr(v':StepV)(ws':List ByteArray)(e':Int)(R:RetG):Prop:=restE ws' e'=(finG R).2∧((finG R).2=0→v'=R.2.2)
theorem Agr.of{v':StepV}{ws':List ByteArray}{e':Int}{R:RetG}(h1:e'=R.1)(h2:R.1=0→ws'=R.2.1∧v'=R.2.2):Agr v' ws' e' R:=by
 subst h1;unfold Agr finG restE;dsimp only
 by_cases h:R.1=0
 ·obtain⟨a,b⟩:=h2 h;rw[if_pos h,a];refine⟨?_,fun _=>b⟩
  by_cases hl:R.2.1=[]
  ·rw[if_pos hl,if_neg (fun hh=>hh.2 hl),h]
  ·rw[if_neg hl,if_pos ⟨h,hl⟩]
 ·rw[if_neg h,if_neg (fun hh=>h hh.1)]
  exact⟨rfl,fun hh=>absurd hh h⟩
def LoopR{α:Type}(W:α×Int×List ByteArray)(a:α)(e:Int)(ws:List ByteArray):Prop:=e=W.2.1∧(e=0→a=W.1∧ws=W.2.2)
theorem LoopR.ids{W:List ByteArray×Int×List ByteArray}{a:List ByteArray}{e:Int}{ws:List ByteArray}(hm:moreR ws e=false)(h1:e=0→idsG ws a=W)(h2:e≠0→W.2.1=e):LoopR W a e ws:=by
 by_cases h:e=0
 ·subst h;have:ws=[]:=by simpa [moreR] using hm
  subst this;rw[← h1 rfl];exact⟨rfl,fun _=>⟨rfl,rfl⟩⟩
 ·exact⟨(h2 h).symm,fun hh=>absurd hh h⟩
theorem LoopR.lits{W:List Int×Int×List ByteArray}{a:List Int}{e:Int}{ws:List ByteArray}(hm:moreR ws e=false)(h1:e=0→litsG ws a=W)(h2:e≠0→W.2.1=e):LoopR W a e ws:=by
 by_cases h:e=0
 ·subst h;have:ws=[]:=by simpa [moreR] using hm
  subst this;rw[← h1 rfl];exact⟨rfl,fun _=>⟨rfl,rfl⟩⟩
 ·exact⟨(h2 h).symm,fun hh=>absurd hh h⟩
open Go Go.RowKit Go.Extern.Stop Go.Stop Go.Extern
theorem as_nil(t:Value)(w:World) :
 Calls Tryz.prog 58 #[.nilIface,t] w fun e w'=>e=.returned (.bool false)∧w'=w:=by
 go_enter Tryz.func58,Tryz.ntmps58
 go_wp2
 go_ret
 exact⟨rfl,rfl⟩
theorem As.valueOf2(t:Addr)(w:World):(ReflectliteValue.unpack (.iface 117 (.pointer (some t)))).run Tryz.prog w
 = .ok (.agg #[.pointer (some ⟨9,117,none⟩),.pointer (some ⟨w.heap.size,0,none⟩),.int .u64 150]) (w.alloc (.cells #[.pointer (some t)] 117)):=by kernel_rfl
theorem As.type2(a : Addr)(w : World) : (ReflectliteValue.methodAny (ReflectliteValue.valueError "reflectlite.Value.Type" 0) (fun t _ _ _ => ReflectliteType.toType t) #[.agg #[.pointer (some ⟨9, 117, none⟩), .pointer (some a), .int .u64 150]]).run Tryz.prog w
 = .ok (.iface 174 (.agg #[.pointer (some ⟨9,117,none⟩)])) w:=by kernel_rfl
theorem As.methodKind(h : Value)(w : World) : (Go.method 438 174 (.agg #[h]) "Kind").run Tryz.prog w = .ok (265, h) w := by kernel_rfl
theorem As.kind2(w:World):((ReflectliteType.abiMethod fun t=>(fun a:Nat=>Value.int IntKind.u8 (a:Int)) <$> Rtype.kind t) #[.pointer (some ⟨9,117,none⟩)]).run Tryz.prog w=.ok (.int .u8 22) w:=by kernel_rfl
theorem As.kind1(w:World):((ReflectliteType.abiMethod fun t=>(fun a:Nat=>Value.int IntKind.u8 (a:Int)) <$> Rtype.kind t) #[.pointer (some ⟨9,94,none⟩)]).run Tryz.prog w=.ok (.int .u8 22) w:=by kernel_rfl
theorem As.rlm(z:Sem Value)(f:TypeId→Addr→Nat→Nat→Sem Value)(v:Value) :
 ReflectliteValue.method z f #[v]=(do match ← ReflectliteValue.parts v with | none=>z | some (t,a,fl)=>f t a fl (fl % 32)):=rfl
theorem As.parts2(a:Addr)(w:World):(ReflectliteValue.parts (.agg #[.pointer (some ⟨9,117,none⟩),.pointer (some a),.int .u64 150])).run Tryz.prog w=.ok (some (117,a,150)) w:=by kernel_rfl
theorem As.isNil2(a p:Addr)(W:World)(ha:W.cell? a=some (.pointer (some p))) :
 (ReflectliteValue.method (ReflectliteValue.valueError "reflectlite.Value.IsNil" 0) ReflectliteValue.isNil #[.agg #[.pointer (some ⟨9, 117, none⟩), .pointer (some a), .int .u64 150]]).run Tryz.prog W = .ok (.bool false) W := by
 rw[As.rlm];simp only[Sem.run_bind,As.parts2,Result.andThen]
 simp[ReflectliteValue.isNil,loadVar,isAgg,underlying,Tryz.underlying117,ha,Result.andThen]
theorem As.methodElem(h : Value)(w : World) : (Go.method 438 174 (.agg #[h]) "Elem").run Tryz.prog w = .ok (277, .agg #[h]) w := by kernel_rfl
theorem As.methodImplements(h : Value)(w : World) : (Go.method 438 174 (.agg #[h]) "Implements").run Tryz.prog w = .ok (278, .agg #[h]) w := by kernel_rfl
theorem As.methodAssignableTo(h : Value)(w : World) : (Go.method 438 174 (.agg #[h]) "AssignableTo").run Tryz.prog w = .ok (275, .agg #[h]) w := by kernel_rfl
theorem As.elem2(w:World):(ReflectliteType.method ReflectliteType.elem #[.agg #[.pointer (some ⟨9,117,none⟩)]]).run Tryz.prog w=.ok (.iface 174 (.agg #[.pointer (some ⟨9,94,none⟩)])) w:=by kernel_rfl
theorem As.implements1(w : World) : (ReflectliteType.relation "Implements" ReflectliteType.implements_ #[.agg #[.pointer (some ⟨9, 94, none⟩)], .iface 174 (.agg #[.pointer (some ⟨9, 57, none⟩)])]).run Tryz.prog w = .ok (.bool true) w := by kernel_rfl
theorem As.typeOf1(v:Value)(w:World):(ReflectliteType.typeOf #[.iface 94 v]).run Tryz.prog w=.ok (.iface 174 (.agg #[.pointer (some ⟨9,94,none⟩)])) w:=by kernel_rfl
theorem As.assignable1(w : World) : (ReflectliteType.relation "AssignableTo" ReflectliteType.assignableTo #[.agg #[.pointer (some ⟨9, 94, none⟩)], .iface 174 (.agg #[.pointer (some ⟨9, 94, none⟩)])]).run Tryz.prog w = .ok (.bool true) w := by kernel_rfl
theorem As.valueOf1(e:Addr)(w:World):(ReflectliteValue.unpack (.iface 94 (.pointer (some e)))).run Tryz.prog w
 = .ok (.agg #[.pointer (some ⟨9,94,none⟩),.pointer (some ⟨w.heap.size,0,none⟩),.int .u64 150]) (w.alloc (.cells #[.pointer (some e)] 94)):=by kernel_rfl
theorem As.elemOf2(w:World):(Rtype.elem? 117).run Tryz.prog w=.ok (some 94) w:=by kernel_rfl
theorem As.mk1(p:Addr)(w:World):(ReflectliteValue.mk 94 p ReflectliteValue.flagAddr).run Tryz.prog w=.ok (.agg #[.pointer (some ⟨9,94,none⟩),.pointer (some p),.int .u64 406]) w:=by kernel_rfl
theorem As.elemV2(a p:Addr)(W:World)(ha:W.cell? a=some (.pointer (some p))) :
 (ReflectliteValue.method (ReflectliteValue.valueError "reflectlite.Value.Elem" 0) ReflectliteValue.elem #[.agg #[.pointer (some ⟨9, 117, none⟩), .pointer (some a), .int .u64 150]]).run Tryz.prog W
   = .ok (.agg #[.pointer (some ⟨9,94,none⟩),.pointer (some p),.int .u64 406]) W:=by
 rw[As.rlm];simp only[Sem.run_bind,As.parts2,Result.andThen]
 simp[ReflectliteValue.elem,loadVar,isAgg,underlying,Tryz.underlying117,ha,Result.andThen,As.elemOf2,As.mk1]
theorem As.rls(v x:Value):ReflectliteValue.set #[v,x]=(do
 let (some (dst,a,fl),some (src,b,_)):=(← ReflectliteValue.parts v,← ReflectliteValue.parts x)
  | unsupported (.noEntry "extern/(internal/reflectlite.Value).Set.zeroValue")
 if fl / ReflectliteValue.flagAddr % 2 == 0 then unsupported (.noEntry "extern/(internal/reflectlite.Value).Set.unaddressable")
 let val ← loadVar src b
 if ← Rtype.directlyAssignable dst src then storeVar dst a val
 else if ← Rtype.implements dst src then
  if (← Rtype.kind src) == 20 then
   match val with
   | .nilIface => unsupported (.noEntry "extern/reflectlite: a nil value of one interface type handed on as a value of another")
   | _=>storeVar dst a val
  else storeVar dst a (.iface src val)
 else panicString ("reflectlite.Set: value of type " ++ (← Rtype.spelt src) ++ " is not assignable to type " ++ (← Rtype.spelt dst))
 pure (.tuple #[])):=rfl
theorem As.parts1a(a:Addr)(w:World):(ReflectliteValue.parts (.agg #[.pointer (some ⟨9,94,none⟩),.pointer (some a),.int .u64 406])).run Tryz.prog w=.ok (some (94,a,406)) w:=by kernel_rfl
theorem As.parts1(a:Addr)(w:World):(ReflectliteValue.parts (.agg #[.pointer (some ⟨9,94,none⟩),.pointer (some a),.int .u64 150])).run Tryz.prog w=.ok (some (94,a,150)) w:=by kernel_rfl
theorem As.direct1(w:World):(Rtype.directlyAssignable 94 94).run Tryz.prog w=.ok true w:=by kernel_rfl
theorem As.set1(ta b e:Addr)(old:Value)(W:World)(hb:W.cell? b=some (.pointer (some e)))(ht:W.cell? ta=some old)(hf:W.frozen? ta=false) :
 (ReflectliteValue.set #[.agg #[.pointer (some ⟨9,94,none⟩),.pointer (some ta),.int .u64 406],.agg #[.pointer (some ⟨9,94,none⟩),.pointer (some b),.int .u64 150]]).run Tryz.prog W
   = .ok (.tuple #[]) (W.setCell ta (.pointer (some e))):=by
 rw[As.rls];simp only[Sem.run_bind,As.parts1a,As.parts1,Result.andThen]
 simp[ReflectliteValue.flagAddr,loadVar,isAgg,underlying,Tryz.underlying94,hb,Result.andThen,As.direct1,storeVar,Value.cells,storeCells,Addr.add]
 rw[run_store Tryz.prog W ta _ _ (by rfl)]
 simp[ht,hf]
set_option maxHeartbeats 4000000 in
theorem as_hit(e t:Addr)(old:Value)(w:World)(hg:w.cell? ⟨0,0,none⟩=some (.iface 174 (.agg #[.pointer (some ⟨9,57,none⟩)])))(ht0:w.cell? t=some old)(hf0:w.frozen? t=false) :
 Calls Tryz.prog 58 #[.iface 94 (.pointer (some e)),.iface 117 (.pointer (some t))] w fun ev w'=>ev=.returned (.bool true)∧w'=((((w.alloc (.cells #[.pointer (some t)] 117)).alloc (.cells #[.pointer (some ⟨9,117,none⟩),.pointer (some ⟨w.heap.size,0,none⟩),.int .u64 150] 148)).alloc (.cells #[.pointer (some ⟨9,117,none⟩),.pointer (some ⟨w.heap.size,0,none⟩),.int .u64 150] 148)).alloc (.cells #[.pointer (some e)] 94)).setCell t (.pointer (some e)):=by
 have h6:=@run_callFunc_extern Tryz.prog 90 _ (fun args=>ReflectliteValue.unpack (args.getD 0 (.tuple #[]))) Tryz.func90 (by kernel_rfl) (by kernel_rfl) (by kernel_rfl) (by kernel_rfl)
 have h7 := @run_callFunc_extern Tryz.prog 91 _ (ReflectliteValue.methodAny (ReflectliteValue.valueError "reflectlite.Value.Type" 0) (fun t _ _ _ => ReflectliteType.toType t)) Tryz.func91 (by kernel_rfl) (by kernel_rfl) (by kernel_rfl) (by kernel_rfl)
 have h8 := @run_callFunc_extern Tryz.prog 92 _ (ReflectliteValue.method (ReflectliteValue.valueError "reflectlite.Value.IsNil" 0) ReflectliteValue.isNil) Tryz.func92 (by kernel_rfl) (by kernel_rfl) (by kernel_rfl) (by kernel_rfl)
 have h27:=@run_callFunc_extern Tryz.prog 265 _ (ReflectliteType.abiMethod fun t=>do pure (.int .u8 (← Rtype.kind t))) Tryz.func265 (by kernel_rfl) (by kernel_rfl) (by kernel_rfl) (by kernel_rfl)
 have h37:=@run_callFunc_extern Tryz.prog 277 _ (ReflectliteType.method ReflectliteType.elem) Tryz.func277 (by kernel_rfl) (by kernel_rfl) (by kernel_rfl) (by kernel_rfl)
 have h38 := @run_callFunc_extern Tryz.prog 278 _ (ReflectliteType.relation "Implements" ReflectliteType.implements_) Tryz.func278 (by kernel_rfl) (by kernel_rfl) (by kernel_rfl) (by kernel_rfl)
 have h10:=@run_callFunc_extern Tryz.prog 126 _ ReflectliteType.typeOf Tryz.func126 (by kernel_rfl) (by kernel_rfl) (by kernel_rfl) (by kernel_rfl)
 have h35 := @run_callFunc_extern Tryz.prog 275 _ (ReflectliteType.relation "AssignableTo" ReflectliteType.assignableTo) Tryz.func275 (by kernel_rfl) (by kernel_rfl) (by kernel_rfl) (by kernel_rfl)
 have h11 := @run_callFunc_extern Tryz.prog 127 _ (ReflectliteValue.method (ReflectliteValue.valueError "reflectlite.Value.Elem" 0) ReflectliteValue.elem) Tryz.func127 (by kernel_rfl) (by kernel_rfl) (by kernel_rfl) (by kernel_rfl)
 have h12:=@run_callFunc_extern Tryz.prog 128 _ ReflectliteValue.set Tryz.func128 (by kernel_rfl) (by kernel_rfl) (by kernel_rfl) (by kernel_rfl)
 have tO:=As.typeOf1
 have mA:=As.methodAssignableTo
 have a25:=As.assignable1
 have v25:=As.valueOf1
 have f6:=As.valueOf2
 have f7:=As.type2
 have mK:=As.methodKind
 have mE:=As.methodElem
 have mI:=As.methodImplements
 have k27:=As.kind2
 have k25:=As.kind1
 have e27:=As.elem2
 have i25:=As.implements1
 have n8:=As.isNil2 ⟨w.heap.size,0,none⟩ t ((w.alloc (.cells #[.pointer (some t)] 117)).alloc (.cells #[.pointer (some ⟨9,117,none⟩),.pointer (some ⟨w.heap.size,0,none⟩),.int .u64 150] 148)) (by simp)
 have hlt:0<w.heap.size:=by
  rcases Nat.eq_zero_or_pos w.heap.size with h0 | h
  ·simp[World.cell?,h0] at hg
  ·exact h
 have hg2:((w.alloc (.cells #[.pointer (some t)] 117)).alloc (.cells #[.pointer (some ⟨9,117,none⟩),.pointer (some ⟨w.heap.size,0,none⟩),.int .u64 150] 148)).cell? ⟨0,0,none⟩=some (.iface 174 (.agg #[.pointer (some ⟨9,57,none⟩)])):=by
  rw[World.cell?_alloc_lt _ _ ⟨0,0,none⟩ (by simp),World.cell?_alloc_lt _ _ ⟨0,0,none⟩ hlt];exact hg
 have htl:t.block<w.heap.size:=by
  rcases Nat.lt_or_ge t.block w.heap.size with h | h
  ·exact h
  ·simp[World.cell?,Array.getElem?_eq_none h] at ht0
 have el:=As.elemV2 ⟨w.heap.size,0,none⟩ t (((w.alloc (.cells #[.pointer (some t)] 117)).alloc (.cells #[.pointer (some ⟨9,117,none⟩),.pointer (some ⟨w.heap.size,0,none⟩),.int .u64 150] 148)).alloc (.cells #[.pointer (some ⟨9,117,none⟩),.pointer (some ⟨w.heap.size,0,none⟩),.int .u64 150] 148)) (by rw[World.cell?_alloc_lt _ _ ⟨w.heap.size,0,none⟩ (by simp;omega)];simp)
 have st:=As.set1 t ⟨w.heap.size+1+1+1,0,none⟩ e old ((((w.alloc (.cells #[.pointer (some t)] 117)).alloc (.cells #[.pointer (some ⟨9,117,none⟩),.pointer (some ⟨w.heap.size,0,none⟩),.int .u64 150] 148)).alloc (.cells #[.pointer (some ⟨9,117,none⟩),.pointer (some ⟨w.heap.size,0,none⟩),.int .u64 150] 148)).alloc (.cells #[.pointer (some e)] 94))
  (by rw[World.cell?_alloc_at _ _ _ _ (by simp)];rfl)
  (by rw[World.cell?_alloc_lt _ _ t (by simp;omega),World.cell?_alloc_lt _ _ t (by simp;omega),World.cell?_alloc_lt _ _ t (by simp;omega),World.cell?_alloc_lt _ _ t htl];exact ht0)
  (by rw[World.frozen?_alloc_old _ _ t (by simp;omega),World.frozen?_alloc_old _ _ t (by simp;omega),World.frozen?_alloc_old _ _ t (by simp;omega),World.frozen?_alloc_old _ _ t (Nat.ne_of_lt htl)];exact hf0)
 go_enter Tryz.func58,Tryz.ntmps58
 go_wp2
 refine wp_loop_rounds 1 ?_;rw[rounds_succ]
 go_wp2
 go_ret
 exact⟨rfl,rfl⟩
theorem good_alloc{w:World}{S:St}(hg:Good (C G) w S)(o:Obj):Good (C G) (w.alloc o) S∧Adv w S (w.alloc o) S:=
 ⟨hg.mk (hg.1.alloc o) (Adv.alloc o hg.1.fresh),Adv.alloc o hg.1.fresh⟩
def GAs(G:Nat→Option (List AV)):Prop:=G 0=some [.raw (.iface 174 (.agg #[.pointer (some ⟨9,57,none⟩)]))]
theorem as_ok_nil(x:AV)(S:St):Triple P (C G) 58 [.nili,x] S fun o S'=>o=.ret (.bool false)∧S'=S:=by
 refine Triple.of_calls (x:=.bool false) Tryz.func58 rfl (by decide +kernel) (fun w vs hg hr=>?_) ⟨rfl,rfl⟩
 obtain⟨u,v,hv,r1,r2⟩:=RelL.two hr;simp only[Rel] at r1;subst r1;rw[show vs=#[.nilIface,v] from arr_of_list hv];refine(as_nil v w).mono fun e w' he=>?_
 obtain⟨rfl,rfl⟩:=he;exact⟨_,rfl,by simp only[Rel],Below.refl _ _⟩
theorem as_ok_hit(hA:GAs G)(e:Int){b:Nat}{S:St}(hS:S b=some (.obj 94 [.nilp])) :
 Triple P (C G) 58 [failAV e,.ifc 117 (.ref b 0)] S fun o S'=>o=.ret (.bool true)∧S'=S.upd b (.obj 94 [.imm [.int .i64 2,.int .i64 0,.int .i64 e]]):=by
 refine Triple.of_callsW Tryz.func58 rfl (by decide +kernel) (fun w vs hg hr=>?_)
 obtain⟨u,v,hv,r1,r2⟩:=RelL.two hr;unfold failAV at r1;simp only[Rel] at r1 r2;obtain⟨y,rfl,fb,off,rfl,r3⟩:=r1;obtain⟨z,rfl,rfl⟩:=r2;rw[show vs=#[.iface 94 (.pointer (some ⟨fb,off,none⟩)),.iface 117 (.pointer (some ⟨b,0,none⟩))] from arr_of_list hv];obtain⟨_,_,h3,_⟩:=hg.2 _ _ hA;simp only[RelAt] at h3;obtain⟨⟨v0,⟨_,h4,_⟩,h5⟩,_⟩:=h3;simp only[Rel] at h5;subst h5;obtain⟨cs,k1,k2,k3⟩:=hg.1 b _ hS;obtain⟨u0,hu0,h6⟩:=RelL.one k2;simp only[Rel] at h6;subst h6;obtain rfl:cs=#[.pointer none]:=arr_of_list hu0;refine(as_hit ⟨fb,off,none⟩ ⟨b,0,none⟩ (.pointer none) w h4 (by rw[Lib.cell_of_heap k1];rfl) (by simp[World.frozen?,k1])).mono fun ev w' he=>?_
 obtain⟨rfl,rfl⟩:=he;obtain⟨g1,a1⟩:=good_alloc hg (.cells #[.pointer (some ⟨b,0,none⟩)] 117);obtain⟨g2,a2⟩:=good_alloc g1 (.cells #[.pointer (some ⟨9,117,none⟩),.pointer (some ⟨w.heap.size,0,none⟩),.int .u64 150] 148);obtain⟨g3,a3⟩:=good_alloc g2 (.cells #[.pointer (some ⟨9,117,none⟩),.pointer (some ⟨w.heap.size,0,none⟩),.int .u64 150] 148);obtain⟨g4,a4⟩:=good_alloc g3 (.cells #[.pointer (some ⟨fb,off,none⟩)] 94);have aa:=((a1.trans a2).trans a3).trans a4;generalize (((w.alloc _).alloc _).alloc _).alloc _=w4 at *;obtain⟨cs,k1',k2',k3'⟩:=g4.1 b _ hS;obtain⟨u0,hu0,h6⟩:=RelL.one k2';simp only[Rel] at h6;subst h6;obtain rfl:cs=#[.pointer none]:=arr_of_list hu0;obtain⟨r1,r2⟩:=setCell_row k1' (.pointer (some ⟨fb,off,none⟩));obtain⟨q1,q2⟩:=good_row (w':=w4.setCell ⟨b,0,none⟩ (.pointer (some ⟨fb,off,none⟩))) (cells':=[.imm [.int .i64 2,.int .i64 0,.int .i64 e]]) g4 hS k1' rfl rfl rfl (by simp[World.setCell]) r2 r1 (by simp) (by
  simp only[RelL,Rel];exact⟨_,_,rfl,⟨_,_,rfl,RelAt.mono aa _ _ _ r3⟩,rfl⟩) (by
  intro v hv;simp only[Array.toList_setIfInBounds,List.set_cons_zero,List.mem_cons,List.not_mem_nil,or_false] at hv;subst hv;rfl)
 exact⟨_,.bool true,_,rfl,by simp only[Rel],q1,aa.trans q2,rfl,rfl⟩
def parseP(s:ByteArray):StepV×Int:=if (parseW (wordsL s)).2=0 then ((parseW (wordsL s)).1,0) else (zeroV,(parseW (wordsL s)).2)
theorem Parse_line_ok(hG:GS G)(hA:GAs G)(s:ByteArray)(hs:s.size≤8999999)(S:St) :
 Triple P (C G) 43 [.str s] S fun o S'=>o=.ret (.tu [stepAV (parseP s).1,.int .i64 (parseP s).2])∧S'=S:=by
 have hp:=fun S=>parse_ok (G:=G) hG s hs S
 unfold parseP;generalize parseW (wordsL s)=r at *;obtain⟨v,e⟩:=r;dsimp only at hp ⊢;refine triple_of_awp (hT G) hm Tryz.func43 rfl (by decide +kernel) rfl (by decide +kernel) (by show 1≤_;decide +kernel) rfl ?_
 refine awp_seq2 fun K hK hQ=>?_
 conv=>whnf
 intro b2 hb2;conv=>whnf
 refine hK _ _ ?_;clear hK hQ K;have hfin:∀ (o2 o2' o4 o4' o6:Own) (b4 b6:Nat),(S.upd b2 o2) b4=none→(((S.upd b2 o2).upd b4 o4).upd b4 o4') b6=none→St.le S (((((S.upd b2 o2).upd b4 o4).upd b4 o4').upd b6 o6).upd b2 o2'):=fun o2 o2' o4 o4' o6 b4 b6 hb4 hb6=>by
  rw[St.upd_upd] at hb6 ⊢;exact St.le_upd (St.le_upd' (St.le_upd' (St.le_upd' (St.le_refl _) hb2 _) hb4 _) hb6 _) hb2 _
 have hfin2:∀ (o2 o2' o4 o4' o6 o6':Own) (b4 b6:Nat),(S.upd b2 o2) b4=none→(((S.upd b2 o2).upd b4 o4).upd b4 o4') b6=none→St.le S ((((((S.upd b2 o2).upd b4 o4).upd b4 o4').upd b6 o6).upd b6 o6').upd b2 o2'):=fun o2 o2' o4 o4' o6 o6' b4 b6 hb4 hb6=>by
  rw[St.upd_upd _ b6];exact hfin _ _ _ _ _ _ _ hb4 hb6
 refine awp_seq2 fun K hK hQ=>?_
 by_cases he:e=0
 ·simp only[if_pos he] at hK hQ;simp only[errAV,if_pos he] at hp;conv=>whnf
  refine(hp _).mono ?_;rintro o S' ⟨rfl,rfl⟩;conv=>whnf
  intro b4 hb4;conv=>whnf
  refine⟨_,_,St.upd_same _ _ _,?_⟩;conv=>whnf
  refine hK _ _ ?_;clear hK hQ K;refine awp_seq2 fun K hK hQ=>?_
  conv=>whnf
  intro b6 hb6;conv=>whnf
  refine hK _ _ ?_;clear hK hQ K;refine awp_seq2 fun K hK hQ=>?_
  conv=>whnf
  refine(as_ok_nil _ _).mono ?_;rintro o S' ⟨rfl,rfl⟩;conv=>whnf
  refine hK _ _ ?_;clear hK hQ K;conv=>whnf
  refine⟨_,_,St.up hb6 (St.upd_same _ _ _),?_⟩;conv=>whnf
  refine⟨_,_,St.up hb6 (by rw[St.upd_upd];exact St.up hb4 (St.upd_same _ _ _)),?_⟩
  conv=>whnf
  refine⟨_,_,St.upd_same _ _ _,?_⟩;conv=>whnf
  refine⟨_,_,⟨rfl,rfl⟩,?_,AV.leS_refl _ _ _⟩;exact hfin _ _ _ _ _ _ _ hb4 hb6
 ·simp only[if_neg he] at hK hQ;simp only[errAV,if_neg he] at hp;conv=>whnf
  refine(hp _).mono ?_;rintro o S' ⟨rfl,rfl⟩;conv=>whnf
  intro b4 hb4;conv=>whnf
  refine⟨_,_,St.upd_same _ _ _,?_⟩;conv=>whnf
  refine hK _ _ ?_;clear hK hQ K;refine awp_seq2 fun K hK hQ=>?_
  conv=>whnf
  intro b6 hb6;conv=>whnf
  refine hK _ _ ?_;clear hK hQ K;refine awp_seq2 fun K hK hQ=>?_
  conv=>whnf
  refine(as_ok_hit hA e (St.upd_same _ _ _)).mono ?_;rintro o S' ⟨rfl,rfl⟩;have q2:∀ o4 o4' o6 o6':Own,((((((S.upd b2 (.obj 90 stepZ)).upd b4 o4).upd b4 o4').upd b6 o6).upd b6 o6') b2=some (.obj 90 stepZ)):=fun o4 o4' o6 o6'=>by
   rw[St.upd_upd,St.upd_upd];have n1:b2≠b4:=(St.ne_upd hb4).symm;have n2:b2≠b6:=(St.ne_upd (by rw[St.upd_upd] at hb6;exact St.no hb6)).symm
   exact St.ov n2 (St.ov n1 (St.upd_same _ _ _))
  have n62:b6≠b2:=St.ne_upd (by rw[St.upd_upd] at hb6;exact St.no hb6)
  refine⟨[],(.free 0 (.one 1 (.free 2 (.free 3 (.one 4 (.one 5 (.free 6 .done) .none) (.one 5 (.free 4 (.free 6 .done)) .none)))) (.one 5 (.free 1 (.free 2 (.free 3 (.free 4 (.free 6 .done))))) .none))),_,by decide +kernel,?_,fun _ _ h=>⟨_,.inl rfl,h⟩⟩
  conv=>whnf
  refine⟨?_,?_⟩
  ·refine⟨_,_,St.upd_same _ _ _,?_⟩;conv=>whnf
   refine⟨?_,?_⟩
   ·conv=>whnf
    refine⟨_,_,q2 _ _ _ _,?_⟩;conv=>whnf
    refine hQ _ _ _ (by simp) ?_
    conv=>whnf
    refine⟨_,_,St.upd_same _ _ _,?_⟩;conv=>whnf
    refine⟨_,_,⟨rfl,rfl⟩,hfin2 _ _ _ _ _ _ _ _ hb4 hb6,⟨⟨rfl,rfl,rfl,rfl,rfl,rfl,rfl,rfl,rfl,rfl,rfl⟩,rfl,rfl⟩⟩
   ·refine⟨_,_,q2 _ _ _ _,?_⟩;conv=>whnf
    refine hQ _ _ _ (by simp) ?_
    conv=>whnf
    refine⟨_,_,St.upd_same _ _ _,?_⟩;conv=>whnf
    refine⟨_,_,⟨rfl,rfl⟩,hfin2 _ _ _ _ _ _ _ _ hb4 hb6,⟨⟨rfl,rfl,rfl,rfl,rfl,rfl,rfl,rfl,rfl,rfl,rfl⟩,rfl,rfl⟩⟩
  ·refine⟨_,_,q2 _ _ _ _,?_⟩;conv=>whnf
   refine⟨_,_,St.ov n62 (St.upd_same _ _ _),?_⟩;conv=>whnf
   refine hQ _ _ _ (by simp) ?_
   conv=>whnf
   refine⟨_,_,St.upd_same _ _ _,?_⟩;conv=>whnf
   refine⟨_,_,⟨rfl,rfl⟩,hfin2 _ _ _ _ _ _ _ _ hb4 hb6,⟨⟨rfl,rfl,rfl,rfl,rfl,rfl,rfl,rfl,rfl,rfl,rfl⟩,rfl,rfl⟩⟩
structure WgV where
 lines:Int
 bytes:Int
 rows:Int
 gone:Int
 peak:Int
 longest:Int
 kinds:List Int
def rowsOfI(l:List Int):List AV:=l.map (AV.int .i64)
@[simp] theorem rowsOfI_len (l:List Int):(rowsOfI l).length=l.length:=by simp[rowsOfI]
def wgC(v:WgV):List AV:=.int .i64 v.lines::.int .i64 v.bytes::.int .i64 v.rows::.int .i64 v.gone::.int .i64 v.peak::.int .i64 v.longest::rowsOfI v.kinds
def zero13:List Int:=[0,0,0,0,0,0,0,0,0,0,0,0,0]
def wgZero(b:Int):WgV:=⟨0,b,0,0,0,0,zero13⟩
abbrev Wr (z:Int):Int:=IntKind.i64.wrap z
def mxI(a b:Int):Int:=if b > a then b else a
def isRowK(k:Int):Bool:=k == 3 || k == 4 || k == 11
def upK(l:List Int)(n:Nat):List Int:=l.set n (Wr (l.getD n 0+1))
def wgStep(v:WgV)(k n len:Int):WgV:=
 let rows:=if isRowK k then Wr (v.rows+1) else v.rows
 let gone:=if k=6 then Wr (v.gone+n) else v.gone
 ⟨Wr (v.lines+1),v.bytes,rows,gone,mxI v.peak (Wr (rows-gone)),mxI v.longest len,upK v.kinds k.toNat⟩
@[simp] theorem upK_len (l:List Int) (n:Nat):(upK l n).length=l.length:=by simp[upK]
theorem rows_there{a b:Int}:Wr (Wr (a-b)+1)=Wr (Wr (a+1)-b):=by
 unfold Wr;simp only[IntKind.wrap_i64];omega
theorem gone_there{a b n:Int}:Wr (Wr (a-b)-n)=Wr (a-Wr (b+n)):=by
 unfold Wr;simp only[IntKind.wrap_i64];omega
def wgGo:List ByteArray→Nat→WgV→WgV×Int×Int
 | [],_,v=>(v,0,0)
 | x::l,i,v=>if (parseP x).2=0 then wgGo l (i+1) (wgStep v (parseP x).1.kind (parseP x).1.ids.length x.size) else (wgZero 0,Wr ((i:Int)+1),(parseP x).2)
theorem rowG_kind(ws:List ByteArray)(v:StepV):(rowG ws v).2.2.kind=v.kind:=by
 unfold rowG boundG
 split
 ·split<;>rfl
 ·rfl
theorem idG_kind(ws:List ByteArray)(v:StepV):(idG ws v).2.2.kind=v.kind:=by
 unfold idG
 split
 ·split<;>rfl
 ·rfl
def OkKind(k:Int):Prop:=0≤k∧k<13
theorem tabG_kind{w:ByteArray}{f:List ByteArray→StepV→RetG}(h:tabG w=some f)(l:List ByteArray)(v:StepV):OkKind (f l v).2.2.kind:=by
 have h9:∀ (l:List ByteArray) (v:StepV),(conclG l v).2.2.kind=9:=fun l v=>by
  unfold conclG
  cases l with
  | nil=>rfl
  | cons w l=>
    dsimp only
    split
    ·rfl
    split
    ·rfl
    split
    ·rw[idG_kind]
    split
    ·unfold allG
     split
     ·split
      ·rfl
      ·rw[idG_kind]
     ·rfl
    split
    ·unfold boundsG
     split
     ·unfold upG
      split
      ·show(idG _ _).2.2.kind=9
       rw[idG_kind]
      ·rw[idG_kind]
     ·rfl
    ·rfl
 have h4:∀ (l:List ByteArray) (v:StepV),(rupG l v).2.2.kind=4:=fun l v=>by
  unfold rupG
  split
  ·show(rowG l _).2.2.kind=4
   rw[rowG_kind]
  ·rw[rowG_kind]
 have h12:∀ (l:List ByteArray) (v:StepV),(sameG l v).2.2.kind=12:=fun l v=>by
  unfold sameG
  split
  ·rw[rowG_kind]
  ·rfl
 have h6:∀ (l:List ByteArray) (v:StepV),(delG l v).2.2.kind=6:=fun l v=>by
  unfold delG
  split
  ·split<;>rfl
  ·rfl
 unfold tabG at h
 by_cases ckHead:w=kHead
 ·rw[if_pos ckHead] at h
  injection h with h
  subst h;exact(show OkKind 1 from ⟨by decide,by decide⟩)
 rw[if_neg ckHead] at h
 by_cases ckF:w=kF
 ·rw[if_pos ckF] at h
  injection h with h
  subst h;exact(show OkKind 2 from ⟨by decide,by decide⟩)
 rw[if_neg ckF] at h
 by_cases ckPol:w=kPol
 ·rw[if_pos ckPol] at h
  injection h with h
  subst h;exact(show OkKind 3 from ⟨by decide,by decide⟩)
 rw[if_neg ckPol] at h
 by_cases ckRup:w=kRup
 ·rw[if_pos ckRup] at h
  injection h with h
  subst h;rw[h4];exact⟨by decide,by decide⟩
 rw[if_neg ckRup] at h
 by_cases ckSoli:w=kSoli
 ·rw[if_pos ckSoli] at h
  injection h with h
  subst h;exact(show OkKind 5 from ⟨by decide,by decide⟩)
 rw[if_neg ckSoli] at h
 by_cases ckSolx:w=kSolx
 ·rw[if_pos ckSolx] at h
  injection h with h
  subst h;exact(show OkKind 11 from ⟨by decide,by decide⟩)
 rw[if_neg ckSolx] at h
 by_cases ckE:w=kE
 ·rw[if_pos ckE] at h
  injection h with h
  subst h;rw[h12];exact⟨by decide,by decide⟩
 rw[if_neg ckE] at h
 by_cases ckDel:w=kDel
 ·rw[if_pos ckDel] at h
  injection h with h
  subst h;rw[h6];exact⟨by decide,by decide⟩
 rw[if_neg ckDel] at h
 by_cases ckStar:w=kStar
 ·rw[if_pos ckStar] at h
  injection h with h
  subst h;exact(show OkKind 7 from ⟨by decide,by decide⟩)
 rw[if_neg ckStar] at h
 by_cases ckOut:w=kOut
 ·rw[if_pos ckOut] at h
  injection h with h
  subst h;exact(show OkKind 8 from ⟨by decide,by decide⟩)
 rw[if_neg ckOut] at h
 by_cases ckConc:w=kConc
 ·rw[if_pos ckConc] at h
  injection h with h
  subst h;rw[h9];exact⟨by decide,by decide⟩
 rw[if_neg ckConc] at h
 by_cases ckEnd:w=kEnd
 ·rw[if_pos ckEnd] at h
  injection h with h
  subst h;exact(show OkKind 10 from ⟨by decide,by decide⟩)
 rw[if_neg ckEnd] at h
 cases h
theorem parseP_kind(s:ByteArray):OkKind (parseP s).1.kind:=by
 unfold parseP
 split
 ·generalize wordsL s=ws;unfold parseW
  cases ws with
  | nil=>exact(show OkKind 7 from ⟨by decide,by decide⟩)
  | cons w l=>
    dsimp only
    cases h:tabG w with
    | none=>exact(show OkKind 0 from ⟨by decide,by decide⟩)
    | some f=>exact tabG_kind h l zeroV
 ·exact(show OkKind 0 from ⟨by decide,by decide⟩)
theorem splitB_size(sep:ByteArray)(sv:Nat):∀ (k:Nat) (s:ByteArray),∀ x∈Lib.splitB sep sv k s,x.size≤s.size
 | 0,s=>by intro x hx;rw[Lib.splitB_zero] at hx;simp at hx;rw[hx];exact Nat.le_refl _
 | k+1,s=>by
   intro x hx;unfold Lib.splitB at hx
   split at hx
   ·simp at hx;rw[hx];exact Nat.le_refl _
   ·rcases List.mem_cons.1 hx with rfl | hx
    ·rw[ByteArray.size_extract];omega
    ·have:=splitB_size sep sv k _ x hx
     rw[ByteArray.size_extract] at this;omega
theorem linesOf_size(s:ByteArray):∀ x∈linesOf s,x.size≤s.size:=by
 intro x hx;unfold linesOf at hx;dsimp only at hx;have hm:x∈splitS s sepNL:=by
  split at hx
  ·exact List.mem_of_mem_take hx
  ·exact hx
 exact splitB_size _ _ _ _ x hm
theorem linesOf_len(s:ByteArray):(linesOf s).length≤s.size+1:=by
 have:=splitS_le s sepNL (by decide)
 unfold linesOf;dsimp only
 split
 ·rw[List.length_take];omega
 ·omega
theorem setRange_app:∀ (xs pre post:List AV),setRange (pre++post) pre.length xs=pre++(xs++post.drop xs.length)∨post.length<xs.length
 | [],pre,post=>.inl (by simp[setRange])
 | x::xs,pre,[]=>.inr (by simp)
 | x::xs,pre,y::post=>by
   have h:=setRange_app xs (pre++[x]) post
   simp only[List.length_append,List.length_cons,List.length_nil,List.append_assoc,List.singleton_append] at h
   rcases h with h | h
   ·left
    rw[setRange];have:(pre++y::post).set pre.length x=pre++x::post:=by simp
    rw[this]
    simpa using h
   ·right;simp;omega
theorem setRange_all{cells xs:List AV}(h:xs.length=cells.length):setRange cells 0 xs=xs:=by
 rcases setRange_app xs [] cells with h1 | h1
 ·simp only[List.nil_append,List.length_nil] at h1;rw[h1,h,List.drop_length,List.append_nil]
 ·omega
def stepM(v:StepV):List AV:=[.int .i64 v.kind,.str v.num,.sl .any 3 (rowsO v.ops),.sl .any 2 (rowsP v.pieces),.str v.bound,.sl .any 1 (rowsI v.lits),.sl .any 1 (rowsS v.ids),.int .i64 v.n6,.str v.s7,.str v.s8]
theorem len13{α:Type}{l:List α}(h:l.length=13):∃ a0 a1 a2 a3 a4 a5 a6 a7 a8 a9 a10 a11 a12,l=[a0,a1,a2,a3,a4,a5,a6,a7,a8,a9,a10,a11,a12]:=by
 match l,h with
 | [a0,a1,a2,a3,a4,a5,a6,a7,a8,a9,a10,a11,a12],_=>exact⟨a0,a1,a2,a3,a4,a5,a6,a7,a8,a9,a10,a11,a12,rfl⟩
end Go.Proofs.YtjpboanohpaibaaGreatDoor.Aw

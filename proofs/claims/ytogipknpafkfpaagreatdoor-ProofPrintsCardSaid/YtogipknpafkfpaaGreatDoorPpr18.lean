/- Package hallmarkref8: the reader's row, no fault yet. Package hallmarkref8: the reader's ends. Package hallmarkref8: the -/
import Derived.Test.YtogipknpafkfpaaGreatDoorPpr17
import Derived.Test.YtogipknpafkfpaaGreatDoorPpr11
set_option linter.all false
set_option maxRecDepth 100000
namespace Go.Proofs.YtogipknpafkfpaaGreatDoor.Aw
open Go Go.RowKit
variable {G:Nat→Option (List AV)}
def rowA(sh:Sh)(ps:List (ByteArray×Int))(b:ByteArray):Own:=.obj 51 [.sl sh 2 (rowsP ps),.str b]
theorem pieceG_step{ws:List ByteArray}(hw:ws.head?≠some geS)(acc:List (ByteArray×Int)){n:ByteArray×Int×List ByteArray}(hn:numR (-1) ws 0=n){li:Int×Int×List ByteArray}(hl:litR n.2.2 n.2.1=li) :
 (li.2.1=0→pieceG ws acc=pieceG li.2.2 (acc++[(n.1,li.1)])∧li.2.2.length+1<ws.length)∧(li.2.1≠0→(pieceG ws acc).2.1=li.2.1):=by
 subst hl hn;unfold numR;rw[if_pos rfl]
 cases ws with
 | nil=>simp[numG,litR,pieceG]
 | cons w l=>
   have hw':w≠geS:=fun e=>hw (by rw[e];rfl)
   clear hw;unfold numG;dsimp only
   by_cases hn:isNumV w.data.toList (-1)=true
   ·rw[if_pos hn]
    cases l with
    | nil=>simp[litR,rlitG,pieceG,hw',hn]
    | cons x l=>
      unfold litR rlitG;rw[if_pos rfl,pieceG,if_neg hw',if_pos hn];dsimp only
      by_cases hx:litV x.data.toList=0
      ·simp[if_pos hx]
      ·simp[if_neg hx]
   ·rw[if_neg hn]
    cases l with
    | nil=>simp[litR,pieceG,hw',hn]
    | cons x l=>simp[litR,pieceG,hw',hn]
theorem numR_suffix(low:Int)(l:List ByteArray)(e:Int):(numR low l e).2.2 <:+ l:=by
 unfold numR;split
 ·exact numG_suffix low l
 ·exact List.suffix_refl _
theorem litR_suffix(l:List ByteArray)(e:Int):(litR l e).2.2 <:+ l:=by
 unfold litR;split
 ·cases l with
  | nil=>exact List.suffix_refl _
  | cons w l=>unfold rlitG;dsimp only;split<;>exact List.suffix_cons _ _
 ·exact List.suffix_refl _
theorem oneR_suffix(w:ByteArray)(l:List ByteArray)(e:Int):(oneR w l e).1 <:+ l:=by
 unfold oneR;split
 ·cases l with
  | nil=>exact List.suffix_refl _
  | cons x l=>exact List.suffix_cons _ _
 ·exact List.suffix_refl _
theorem row_tail{v:StepV}{PW:List (ByteArray×Int)×Int×List ByteArray}{R:RetG}(hrow:R=if PW.2.1=0 then boundG PW.2.2.tail { v with pieces:=PW.1 } else (PW.2.1,PW.2.2,{ v with pieces:=PW.1 }))
 {ws:List ByteArray} {e:Int} {acc:List (ByteArray×Int)} (h:(e=0∧ws.head? = some geS∧pieceG ws acc=PW)∨(e≠0∧PW.2.1=e))
 {o1:List ByteArray×Int} (h1:oneR geS ws e=o1) {n:ByteArray×Int×List ByteArray} (h2:numR (-1) o1.1 o1.2=n) {o3:List ByteArray×Int} (h3:oneR semiS n.2.2 n.2.1=o3) :
 o3.2=R.1∧(R.1=0→o3.1=R.2.1∧R.2.2={ v with pieces:=acc,bound:=n.1 }):=by
 rcases h with ⟨rfl,hg,hP⟩ | ⟨he,hP⟩
 ·cases ws with
  | nil=>cases hg
  | cons w l=>
    have hw:w=geS:=by simpa using hg
    subst hw;have hp:PW=(acc,0,geS::l):=by rw[← hP];cases l<;>simp[pieceG]
    subst hp;rw[if_pos rfl] at hrow;have ho1:o1=(l,0):=by rw[← h1];simp[oneR]
    subst ho1;have hn:numG (-1) l=n:=by rw[← h2];simp[numR]
    unfold boundG at hrow;rw[show(acc,(0:Int),geS::l).2.2.tail=l from rfl,hn] at hrow
    by_cases hz:n.2.1=0
    ·rw[if_pos hz] at hrow;have hx:=wordsR_exact [semiS] n.2.2;rw[show wordsR [semiS] n.2.2 0=oneR semiS n.2.2 0 from by simp[wordsR],← hz,h3] at hx
     rw[hrow,hx];exact⟨rfl,fun _=>⟨rfl,rfl⟩⟩
    ·rw[if_neg hz] at hrow;have ho:oneR semiS n.2.2 n.2.1=(n.2.2,n.2.1):=by unfold oneR;rw[if_neg hz]
     rw[ho] at h3;subst h3 hrow;exact⟨rfl,fun h=>absurd h hz⟩
 ·rw[if_neg (by rw[hP];exact he)] at hrow
  have e1:oneR geS ws e=(ws,e):=by unfold oneR;rw[if_neg he]
  rw[e1] at h1;subst h1;have e2:numR (-1) ws e=(⟨#[]⟩,e,ws):=by unfold numR;rw[if_neg he]
  rw[e2] at h2;subst h2;have e3:oneR semiS ws e=(ws,e):=by unfold oneR;rw[if_neg he]
  rw[e3] at h3;subst h3 hrow;exact⟨hP.symm,fun h=>absurd (hP.symm.trans h) he⟩
theorem row_ok1{S:St}{rb:Nat}{ws0:List ByteArray}(h:S rb=some (rdO ws0 0))(hw0:∀ w∈ws0,w.size≤9000000)(hn0:ws0.length≤9000000)(v:StepV)(hv:v.pieces=[]) :
 Triple P (C G) 84 [.ref rb 0] S fun o S'=>∃ ps b ws',o=.ret (.ag [.sl .any 2 (rowsP ps),.str b])∧S'=S.upd rb (rdO ws' (rowG ws0 v).1)∧ws' <:+ ws0∧
  ((rowG ws0 v).1=0→ws'=(rowG ws0 v).2.1∧(rowG ws0 v).2.2={ v with pieces:=ps,bound:=b }):=by
 obtain⟨PW,hPW⟩:∃ W,pieceG ws0 []=W:=⟨_,rfl⟩;have hrow:rowG ws0 v=if PW.2.1=0 then boundG PW.2.2.tail { v with pieces:=PW.1 } else (PW.2.1,PW.2.2,{ v with pieces:=PW.1 }):=by unfold rowG;rw[hv,hPW]
 generalize rowG ws0 v=R at hrow ⊢;refine triple_of_awp (hT G) hm Tryz.func84 rfl (by decide +kernel) rfl (by decide +kernel) (by show 1≤_;decide +kernel) rfl ?_
 refine awp_seq2 fun K hK hQ=>?_
 conv=>whnf
 intro b2 hb2;conv=>whnf
 refine hK _ _ ?_;clear hK hQ K;refine awp_seq2 fun K hK hQ=>?_
 conv=>whnf
 intro b3 hb3;conv=>whnf
 refine hK _ _ ?_;clear hK hQ K;have q0:((S.upd b2 (.obj 51 [.nils,.str ByteArray.empty])).upd b3 (.obj 51 [.nils,.str ByteArray.empty])) rb=some (rdO ws0 0):=St.up hb3 (St.up hb2 h);have q3:=St.upd_same (S.upd b2 (.obj 51 [.nils,.str ByteArray.empty])) b3 (.obj 51 [.nils,.str ByteArray.empty]);have q2:((S.upd b2 (.obj 51 [.nils,.str ByteArray.empty])).upd b3 (.obj 51 [.nils,.str ByteArray.empty])) b2=some (.obj 51 [.nils,.str ByteArray.empty]):=St.up hb3 (St.upd_same _ _ _);have hle:=St.le_upd' (St.le_upd' (St.le_refl S) hb2 (.obj 51 [.nils,.str ByteArray.empty])) hb3 (.obj 51 [.nils,.str ByteArray.empty]);have n2:b2≠rb:=fun e=>by rw[e,h] at hb2;cases hb2
 have n3:b3≠rb:=fun e=>by rw[e,St.up hb2 h] at hb3;cases hb3
 have n32:b3≠b2:=fun e=>by rw[e,St.upd_same] at hb3;cases hb3
 change awp _ _ _ _ ((S.upd b2 (.obj 51 [.nils,.str ByteArray.empty])).upd b3 (.obj 51 [.nils,.str ByteArray.empty])) _;generalize (S.upd b2 (.obj 51 [.nils,.str ByteArray.empty])).upd b3 (.obj 51 [.nils,.str ByteArray.empty])=T at *;refine awp_seq2 fun K hK hQ=>?_
 conv=>whnf
 refine⟨⟨List ByteArray×Int×List (ByteArray×Int)×Nat,fun x=>[(0,.ref rb 0),(2,.ref b2 0),(3,.ref b3 0)],
  fun x S1=>AccOk ((T.upd rb (rdO x.1 x.2.1)).upd b3 (rowA (.acc x.2.2.2) x.2.2.1 ByteArray.empty)) S1 126 2 x.2.2.2 x.2.2.1.length∧x.2.2.1.length+x.1.length≤9000001∧x.1 <:+ ws0∧
   (x.2.1=0→pieceG x.1 x.2.2.1=PW∧x.2.2.1.length+x.1.length≤9000000)∧(x.2.1≠0→PW.2.1=x.2.1),fun x=>x.1.length+(if x.2.1=0 then 1 else 0)⟩,
  ⟨(ws0,0,[],0),⟨rfl,rfl,rfl,trivial⟩,T.upd b3 (rowA (.acc 0) [] ByteArray.empty),St.leW_upd q3 ⟨rfl,rfl,trivial⟩,by rw[St.upd_id q0];exact AccOk.init _ _ _ _,by dsimp only;simp;omega,List.suffix_refl _,fun _=>⟨hPW,by simpa using hn0⟩,fun h=>absurd rfl h⟩,?_⟩
 rintro⟨ws,e,acc,ba⟩ S1 ⟨g1,g2,g3,g4,g5⟩;dsimp only at g1 g2 g3 g4 g5;have q1:S1 rb=some (rdO ws e):=g1.le _ _ (by rw[St.upd_ne _ _ _ _ n3.symm];exact St.upd_same _ _ _)
 have p3:S1 b3=some (rowA (.acc ba) acc ByteArray.empty):=g1.le _ _ (St.upd_same _ _ _)
 have hsw:∀ w∈ws,w.size≤9000000:=fun w hw=>hw0 w (g3.mem hw)
 have hfin:∀ (X:Own) (F:St),F rb=some X→(∀ x,x≠rb→x≠b2→x≠b3→F x=S1 x)→St.le (S.upd rb X) F:=fun X F f1 f2 x p hx=>by
  by_cases h1:x=rb
  ·subst h1;rw[St.upd_same] at hx;rw[f1];exact hx
  rw[St.upd_ne _ _ _ _ h1] at hx;have h2:x≠b2:=fun e=>by rw[e,hb2] at hx;cases hx
  have h3:x≠b3:=fun e=>by rw[e,St.no hb3] at hx;cases hx
  rw[f2 x h1 h2 h3];exact g1.le _ _ (by rw[St.upd_ne _ _ _ _ h3,St.upd_ne _ _ _ _ h1];exact hle _ _ hx)
 have p2:S1 b2=some (.obj 51 [.nils,.str ByteArray.empty]):=g1.le _ _ (by rw[St.upd_ne _ _ _ _ n32.symm,St.upd_ne _ _ _ _ n2];exact q2)
 obtain⟨o1,ho1⟩:∃ o,oneR geS ws e=o:=⟨_,rfl⟩;obtain⟨nn,hn2⟩:∃ o,numR (-1) o1.1 o1.2=o:=⟨_,rfl⟩;obtain⟨o3,ho3⟩:∃ o,oneR semiS nn.2.2 nn.2.1=o:=⟨_,rfl⟩;have sf1:o1.1 <:+ ws:=by rw[← ho1];exact oneR_suffix _ _ _
 have sf2:nn.2.2 <:+ ws:=by rw[← hn2];exact(numR_suffix _ _ _).trans sf1
 have sf3:o3.1 <:+ ws:=by rw[← ho3];exact(oneR_suffix _ _ _).trans sf2
 by_cases he:e=0
 ·subst he;obtain⟨hP,hlen⟩:=g4 rfl;have his:=is_ok (G:=G) q1 geS
  by_cases hge:ws.head? = some geS
  ·rw[show isR ws 0 geS=true from by simp[isR,hge]] at his
   conv=>whnf
   refine⟨_,_,q1,?_⟩;conv=>whnf
   refine his.mono ?_;rintro o T2 ⟨rfl,rfl⟩;conv=>whnf
   obtain⟨t1,t2⟩:=row_tail (acc:=acc) (ws:=ws) hrow (.inl ⟨rfl,hge,hP⟩) ho1 hn2 ho3;refine hK _ _ ?_;clear hK hQ K;refine awp_seq2 fun K hK hQ=>?_
   conv=>whnf
   refine(one_ok (G:=G) q1 geS).mono ?_;rw[ho1];rintro o T2 ⟨rfl,rfl⟩;conv=>whnf
   refine hK _ _ ?_;clear hK hQ K;refine awp_seq2 fun K hK hQ=>?_
   conv=>whnf
   refine(number1_ok (G:=G) (St.upd_same _ _ _) (fun w hw=>hsw w (sf1.mem hw)) (-1) (by omega) (by omega)).mono ?_
   rw[hn2];rintro o T2 ⟨rfl,rfl⟩;conv=>whnf
   refine⟨_,_,St.ov n3 (St.ov n3 p3),?_⟩;conv=>whnf
   refine hK _ _ ?_;clear hK hQ K;refine awp_seq2 fun K hK hQ=>?_
   conv=>whnf
   refine(one_ok (G:=G) (S:=_) (rb:=rb) (ws:=nn.2.2) (e:=nn.2.1) (St.ov n3.symm (St.upd_same _ _ _)) semiS).mono ?_;rw[ho3];rintro o T2 ⟨rfl,rfl⟩;conv=>whnf
   refine hK _ _ ?_;clear hK hQ K;conv=>whnf
   refine⟨_,_,St.ov n3 (St.upd_same _ _ _),?_⟩;conv=>whnf
   refine⟨_,_,St.ov n2 (St.ov n32.symm (St.ov n2 (St.ov n2 p2))),?_⟩;conv=>whnf
   refine⟨_,_,St.upd_same _ _ _,?_⟩;conv=>whnf
   refine⟨_,_,⟨acc,nn.1,o3.1,rfl,rfl,sf3.trans g3,t2⟩,?_,⟨⟨rfl,rfl⟩,rfl,rfl⟩⟩;rw[← t1];exact hfin _ _ (St.ov n2.symm (St.upd_same _ _ _)) (fun x x1 x2 x3=>by rw[St.upd_ne _ _ _ _ x2,St.upd_ne _ _ _ _ x1,St.upd_ne _ _ _ _ x3,St.upd_ne _ _ _ _ x1,St.upd_ne _ _ _ _ x1])
  ·rw[show isR ws 0 geS=false from by simp[isR,hge]] at his
   clear ho1 hn2 ho3 sf1 sf2 sf3;obtain⟨nu,hnu⟩:∃ o,numR (-1) ws 0=o:=⟨_,rfl⟩;obtain⟨li,hli⟩:∃ o,litR nu.2.2 nu.2.1=o:=⟨_,rfl⟩;obtain⟨k1,k2⟩:=pieceG_step hge acc hnu hli;have u1:nu.2.2 <:+ ws:=by rw[← hnu];exact numR_suffix _ _ _
   have u2:li.2.2 <:+ ws:=by rw[← hli];exact(litR_suffix _ _).trans u1
   have m1:=(number1_ok (G:=G) q1 hsw (-1) (by omega) (by omega))
   rw[hnu] at m1;have m2:=(lit1_ok (G:=G) (S:=S1.upd rb (rdO nu.2.2 nu.2.1)) (St.upd_same _ _ _) (fun w hw=>hsw w (u1.mem hw)))
   rw[hli] at m2;conv=>whnf
   refine⟨_,_,q1,?_⟩;conv=>whnf
   refine his.mono ?_;rintro o T2 ⟨rfl,rfl⟩;conv=>whnf
   refine m1.mono ?_;rintro o T3 ⟨rfl,rfl⟩;refine⟨[],(.free 0 (.free 2 (.free 3 (.one 1 (.one 4 (.free 5 (.one 6 (.one 7 (.free 8 (.one 9 .done .none)) .none) .none)) .none) (.one 4 (.free 1 (.free 5 (.one 6 (.one 7 (.free 8 (.one 9 .done .none)) .none) .none))) .none))))),_,by decide +kernel,?_,fun _ _ h=>⟨_,.inl rfl,h⟩⟩
   conv=>whnf
   refine⟨?_,?_⟩
   ·refine⟨_,_,St.ov n3 p3,?_⟩;conv=>whnf
    refine m2.mono ?_;rintro o T4 ⟨rfl,rfl⟩;conv=>whnf
    rw[St.upd_upd];have g1':=g1.over (x:=rb) (St.ov n3.symm (St.upd_same _ _ _)) (rdO li.2.2 li.2.1);rw[St.upd_comm n3,St.upd_upd] at g1';intro bb hbb;have hTb:=g1'.other hbb (.tip 126 2 1);conv=>whnf
    refine⟨⟨fun hl=>?_,?_⟩,fun S4 c1 c2 b' c3=>?_⟩
    ·have:0<acc.length:=by cases acc with
      | nil=>exact absurd rfl hl
      | cons _ _=>simp
     rw[rowsP_len];exact hTb.tip this
    ·show((rowsP acc).length+1)*24≤_
     rw[rowsP_len];omega
    have h5:=hTb.push (m:=acc.length+1) (by rw[rowsP_len]) c1 c2 c3 rfl
    rw[rowsP_len];conv=>whnf
    rw[rowsP_snoc acc (nu.1,li.1)];refine⟨_,_,h5.le _ _ (St.upd_same _ _ _),?_⟩;conv=>whnf
    have h6:=h5.over (x:=b3) (St.upd_same _ _ _) (rowA (.acc b') (acc++[(nu.1,li.1)]) ByteArray.empty)
    rw[St.upd_upd] at h6;have hl2:=u2.length_le;exact⟨(li.2.2,li.2.1,acc++[(nu.1,li.1)],b'),⟨rfl,rfl,rfl,trivial⟩,⟨_,St.leW_refl _,by dsimp only;rw[List.length_append];exact h6,by simp<;>omega,u2.trans g3,fun h=>by
     obtain⟨a1,a2⟩:=k1 h;exact⟨by rw[← hP];exact a1.symm,by simp<;>omega⟩,fun h=>by rw[← hP];exact k2 h⟩,by
     show li.2.2.length+(if li.2.1=0 then 1 else 0)<ws.length+(if (0:Int)=0 then 1 else 0)
     rw[if_pos (rfl:(0:Int)=0)]
     by_cases h:li.2.1=0
     ·have:=(k1 h).2;rw[if_pos h];omega
     ·rw[if_neg h];omega⟩
   ·refine m2.mono ?_;rintro o T4 ⟨rfl,rfl⟩;conv=>whnf
    refine⟨_,_,St.ov n3 (St.ov n3 p3),?_⟩;conv=>whnf
    rw[St.upd_upd];have g1':=g1.over (x:=rb) (St.ov n3.symm (St.upd_same _ _ _)) (rdO li.2.2 li.2.1);rw[St.upd_comm n3,St.upd_upd] at g1';intro bb hbb;have hTb:=g1'.other hbb (.tip 126 2 1);conv=>whnf
    refine⟨⟨fun hl=>?_,?_⟩,fun S4 c1 c2 b' c3=>?_⟩
    ·have:0<acc.length:=by cases acc with
      | nil=>exact absurd rfl hl
      | cons _ _=>simp
     rw[rowsP_len];exact hTb.tip this
    ·show((rowsP acc).length+1)*24≤_
     rw[rowsP_len];omega
    have h5:=hTb.push (m:=acc.length+1) (by rw[rowsP_len]) c1 c2 c3 rfl
    rw[rowsP_len];conv=>whnf
    rw[rowsP_snoc acc (nu.1,li.1)];refine⟨_,_,h5.le _ _ (St.upd_same _ _ _),?_⟩;conv=>whnf
    have h6:=h5.over (x:=b3) (St.upd_same _ _ _) (rowA (.acc b') (acc++[(nu.1,li.1)]) ByteArray.empty)
    rw[St.upd_upd] at h6;have hl2:=u2.length_le;exact⟨(li.2.2,li.2.1,acc++[(nu.1,li.1)],b'),⟨rfl,rfl,rfl,trivial⟩,⟨_,St.leW_refl _,by dsimp only;rw[List.length_append];exact h6,by simp<;>omega,u2.trans g3,fun h=>by
     obtain⟨a1,a2⟩:=k1 h;exact⟨by rw[← hP];exact a1.symm,by simp<;>omega⟩,fun h=>by rw[← hP];exact k2 h⟩,by
     show li.2.2.length+(if li.2.1=0 then 1 else 0)<ws.length+(if (0:Int)=0 then 1 else 0)
     rw[if_pos (rfl:(0:Int)=0)]
     by_cases h:li.2.1=0
     ·have:=(k1 h).2;rw[if_pos h];omega
     ·rw[if_neg h];omega⟩
 ·have hne:(e == 0)=false:=beq_false_of_ne he
  conv=>whnf
  refine⟨_,_,q1,?_⟩;conv=>whnf
  rw[hne];conv=>whnf
  obtain⟨t1,t2⟩:=row_tail (acc:=acc) (ws:=ws) hrow (.inr ⟨he,g5 he⟩) ho1 hn2 ho3;refine hK _ _ ?_;clear hK hQ K;refine awp_seq2 fun K hK hQ=>?_
  conv=>whnf
  refine(one_ok (G:=G) q1 geS).mono ?_;rw[ho1];rintro o T2 ⟨rfl,rfl⟩;conv=>whnf
  refine hK _ _ ?_;clear hK hQ K;refine awp_seq2 fun K hK hQ=>?_
  conv=>whnf
  refine(number1_ok (G:=G) (St.upd_same _ _ _) (fun w hw=>hsw w (sf1.mem hw)) (-1) (by omega) (by omega)).mono ?_
  rw[hn2];rintro o T2 ⟨rfl,rfl⟩;conv=>whnf
  refine⟨_,_,St.ov n3 (St.ov n3 p3),?_⟩;conv=>whnf
  refine hK _ _ ?_;clear hK hQ K;refine awp_seq2 fun K hK hQ=>?_
  conv=>whnf
  refine(one_ok (G:=G) (S:=_) (rb:=rb) (ws:=nn.2.2) (e:=nn.2.1) (St.ov n3.symm (St.upd_same _ _ _)) semiS).mono ?_;rw[ho3];rintro o T2 ⟨rfl,rfl⟩;conv=>whnf
  refine hK _ _ ?_;clear hK hQ K;conv=>whnf
  refine⟨_,_,St.ov n3 (St.upd_same _ _ _),?_⟩;conv=>whnf
  refine⟨_,_,St.ov n2 (St.ov n32.symm (St.ov n2 (St.ov n2 p2))),?_⟩;conv=>whnf
  refine⟨_,_,St.upd_same _ _ _,?_⟩;conv=>whnf
  refine⟨_,_,⟨acc,nn.1,o3.1,rfl,rfl,sf3.trans g3,t2⟩,?_,⟨⟨rfl,rfl⟩,rfl,rfl⟩⟩;rw[← t1];exact hfin _ _ (St.ov n2.symm (St.upd_same _ _ _)) (fun x x1 x2 x3=>by rw[St.upd_ne _ _ _ _ x2,St.upd_ne _ _ _ _ x1,St.upd_ne _ _ _ _ x3,St.upd_ne _ _ _ _ x1,St.upd_ne _ _ _ _ x1])
structure EndS (S F:St) (rb b2 b3:Nat) (ws:List ByteArray) (e:Int) (cs:List AV):Prop where
 rd:F rb=some (rdO ws e)
 sv:F b3=some (.obj 54 cs)
 rs:F b2=some (.obj 54 stepZ)
 fr:∀ x p,x≠rb→S x=some p→F x=some p
 n2:b2≠rb
 n3:b3≠rb
 n32:b3≠b2
 z2:S b2=none
 z3:S b3=none
theorem EndS.le{S F F':St}{rb b2 b3:Nat}{ws:List ByteArray}{e:Int}{cs:List AV}(h:EndS S F rb b2 b3 ws e cs)(hl:St.le F F'):EndS S F' rb b2 b3 ws e cs:=
 ⟨hl _ _ h.rd,hl _ _ h.sv,hl _ _ h.rs,fun x p h1 h2=>hl _ _ (h.fr x p h1 h2),h.n2,h.n3,h.n32,h.z2,h.z3⟩
theorem EndS.more{S F:St}{rb b2 b3:Nat}{ws:List ByteArray}{e:Int}{cs:List AV}(h:EndS S F rb b2 b3 ws e cs){b:Nat}(hb:F b=none)(o:Own):EndS S (F.upd b o) rb b2 b3 ws e cs:=h.le (St.le_upd' (St.le_refl _) hb o)
theorem EndS.rdr{S F:St}{rb b2 b3:Nat}{ws:List ByteArray}{e:Int}{cs:List AV}(h:EndS S F rb b2 b3 ws e cs)(ws':List ByteArray)(e':Int):EndS S (F.upd rb (rdO ws' e')) rb b2 b3 ws' e' cs:=
 ⟨St.upd_same _ _ _,St.ov h.n3 h.sv,St.ov h.n2 h.rs,fun x p h1 h2=>St.ov h1 (h.fr x p h1 h2),h.n2,h.n3,h.n32,h.z2,h.z3⟩
theorem EndS.put{S F:St}{rb b2 b3:Nat}{ws:List ByteArray}{e:Int}{cs:List AV}(h:EndS S F rb b2 b3 ws e cs)(cs':List AV):EndS S (F.upd b3 (.obj 54 cs')) rb b2 b3 ws e cs':=
 ⟨St.ov h.n3.symm h.rd,St.upd_same _ _ _,St.ov h.n32.symm h.rs,fun x p h1 h2=>St.ov (fun e=>by rw[e,h.z3] at h2;cases h2) (h.fr x p h1 h2),h.n2,h.n3,h.n32,h.z2,h.z3⟩
theorem EndS.fin{S F:St}{rb b2 b3:Nat}{ws:List ByteArray}{e:Int}{cs:List AV}(h:EndS S F rb b2 b3 ws e cs)(o:Own):St.le (S.upd rb (rdO ws e)) (F.upd b2 o):=fun x p hx=>by
 by_cases h1:x=rb
 ·subst h1;rw[St.upd_same] at hx;cases hx;exact St.ov h.n2.symm h.rd
 ·rw[St.upd_ne _ _ _ _ h1] at hx;exact St.ov (fun e=>by rw[e,h.z2] at hx;cases hx) (h.fr x p h1 hx)
def Agr(v':StepV)(ws':List ByteArray)(e':Int)(R:RetG):Prop:=restE ws' e'=(finG R).2∧((finG R).2=0→v'=R.2.2)
theorem Agr.of{v':StepV}{ws':List ByteArray}{e':Int}{R:RetG}(h1:e'=R.1)(h2:R.1=0→ws'=R.2.1∧v'=R.2.2):Agr v' ws' e' R:=by
 subst h1;unfold Agr finG restE;dsimp only
 by_cases h:R.1=0
 ·obtain⟨a,b⟩:=h2 h;rw[if_pos h,a];refine⟨?_,fun _=>b⟩
  by_cases hl:R.2.1=[]
  ·rw[if_pos hl,if_neg (fun hh=>hh.2 hl),h]
  ·rw[if_neg hl,if_pos ⟨h,hl⟩]
 ·rw[if_neg h,if_neg (fun hh=>h hh.1)]
  exact⟨rfl,fun hh=>absurd hh h⟩
theorem Agr.err{v':StepV}{ws':List ByteArray}{e':Int}{R:RetG}(h0:e'≠0)(h1:(finG R).2=e'):Agr v' ws' e' R:=by
 refine⟨?_,fun h=>absurd (h1.symm.trans h) h0⟩
 unfold restE;rw[if_neg (fun hh=>h0 hh.1),h1]
theorem numR_ok{low:Int}{ws:List ByteArray}:numR low ws 0=numG low ws:=if_pos rfl
theorem numR_err{low:Int}{ws:List ByteArray}{e:Int}(h:e≠0):numR low ws e=(⟨#[]⟩,e,ws):=if_neg h
theorem oneR_err{x:ByteArray}{ws:List ByteArray}{e:Int}(h:e≠0):oneR x ws e=(ws,e):=if_neg h
theorem id_agr{v:StepV}{l:List ByteArray}(hl:l≠[]){o:List ByteArray×Int}(ho:oneR colonS l 0=o){m:ByteArray×Int×List ByteArray}(hm:numR 1 o.1 o.2=m):Agr { v with ids:=[m.1] } m.2.2 m.2.1 (idG l v):=by
 cases l with
 | nil=>exact absurd rfl hl
 | cons x l=>
   unfold idG
   by_cases hx:x=colonS
   ·subst hx;have:o=(l,0):=by rw[← ho];simp[oneR]
    subst this;rw[numR_ok] at hm;rw[if_pos (by rfl),show(colonS::l).tail=l from rfl,hm]
    by_cases h0:m.2.1=0
    ·rw[if_pos h0];exact Agr.of h0 (fun _=>⟨rfl,rfl⟩)
    ·rw[if_neg h0];exact Agr.of rfl (fun h=>absurd h h0)
   ·have:o=(l,80):=by rw[← ho];simp[oneR,hx]
    subst this;rw[numR_err (e:=80) (by decide)] at hm
    subst hm;rw[if_neg (by simpa using hx)]
    exact Agr.err (show(80:Int)≠0 by decide) rfl
theorem all_agr{v:StepV}{l:List ByteArray}{n:ByteArray×Int×List ByteArray}(hn:numR 0 l 0=n){o:List ByteArray×Int}(ho:oneR colonS n.2.2 n.2.1=o){m:ByteArray×Int×List ByteArray}(hm:numR 1 o.1 o.2=m) :
 Agr { v with n6:=6,s8:=n.1,ids:=[m.1] } m.2.2 m.2.1 (allG l v):=by
 rw[numR_ok] at hn;unfold allG;rw[hn]
 by_cases h0:n.2.1=0
 ·rw[if_pos h0];rw[h0] at ho
  by_cases hl:n.2.2=[]
  ·rw[if_pos hl];rw[hl] at ho;have:o=([],82):=by rw[← ho];simp[oneR]
   subst this;rw[numR_err (by decide)] at hm
   subst hm;exact Agr.err (by decide) rfl
  ·rw[if_neg hl];exact id_agr (v:={ v with n6:=6,s8:=n.1 }) hl ho hm
 ·rw[if_neg h0];rw[oneR_err h0] at ho;subst ho;rw[numR_err h0] at hm;subst hm;exact Agr.of rfl (fun h=>absurd h h0)
theorem bounds_agr1{v:StepV}{l:List ByteArray}{n:ByteArray×Int×List ByteArray}(hn:numR (-1) l 0=n)(hi:isR n.2.2 n.2.1 colonS=false){k:ByteArray×Int×List ByteArray}(hk:numR (-1) n.2.2 n.2.1=k) :
 Agr { v with n6:=5,s7:=n.1,s8:=k.1 } k.2.2 k.2.1 (boundsG l v):=by
 rw[numR_ok] at hn;unfold boundsG;rw[hn]
 by_cases h0:n.2.1=0
 ·rw[if_pos h0];rw[h0] at hk hi;rw[numR_ok] at hk;have hi:¬ n.2.2.head? = some colonS:=by simpa [isR] using hi
  unfold idG upG;rw[if_neg hi,if_pos rfl];dsimp only;rw[hk];exact Agr.of rfl (fun _=>⟨rfl,rfl⟩)
 ·rw[if_neg h0];rw[numR_err h0] at hk;subst hk;exact Agr.of rfl (fun h=>absurd h h0)
theorem bounds_agr2{v:StepV}{l:List ByteArray}{n:ByteArray×Int×List ByteArray}(hn:numR (-1) l 0=n)(hi:isR n.2.2 n.2.1 colonS=true){m:ByteArray×Int×List ByteArray}(hm:numR 1 n.2.2.tail 0=m){k:ByteArray×Int×List ByteArray}(hk:numR (-1) m.2.2 m.2.1=k) :
 Agr { v with n6:=5,s7:=n.1,ids:=[m.1],s8:=k.1 } k.2.2 k.2.1 (boundsG l v):=by
 rw[numR_ok] at hn hm;have hi:n.2.1=0∧n.2.2.head? = some colonS:=by simpa [isR] using hi
 unfold boundsG;rw[hn,if_pos hi.1];unfold idG upG;rw[if_pos hi.2,hm]
 by_cases h0:m.2.1=0
 ·rw[if_pos h0,if_pos rfl];rw[h0,numR_ok] at hk;dsimp only;rw[hk];exact Agr.of rfl (fun _=>⟨rfl,rfl⟩)
 ·rw[if_neg h0,if_neg h0];rw[numR_err h0] at hk;subst hk;exact Agr.of rfl (fun h=>absurd h h0)
theorem ends_ok1{S:St}{rb:Nat}{ws0:List ByteArray}(h:S rb=some (rdO ws0 0))(hw0:∀ w∈ws0,w.size≤9000000) :
 Triple P (C G) 88 [.ref rb 0] S fun o S'=>∃ v' ws' e',o=.ret (stepAV v')∧S'=S.upd rb (rdO ws' e')∧ws' <:+ ws0∧Agr v' ws' e' (conclG ws0 zeroV):=by
 obtain⟨R,hR⟩:∃ R,conclG ws0 zeroV=R:=⟨_,rfl⟩;rw[hR];refine triple_of_awp (hT G) hm Tryz.func88 rfl (by decide +kernel) rfl (by decide +kernel) (by show 1≤_;decide +kernel) rfl ?_
 refine awp_seq2 fun K hK hQ=>?_
 conv=>whnf
 intro b2 hb2;conv=>whnf
 refine hK _ _ ?_;clear hK hQ K;refine awp_seq2 fun K hK hQ=>?_
 conv=>whnf
 intro b3 hb3;conv=>whnf
 refine⟨_,_,St.upd_same _ _ _,?_⟩;conv=>whnf
 rw[St.upd_upd];refine hK _ _ ?_;clear hK hQ K;have hE:EndS S ((S.upd b2 (.obj 54 stepZ)).upd b3 (.obj 54 (.int .i64 9::stepZ.tail))) rb b2 b3 ws0 0 (.int .i64 9::stepZ.tail):=
  ⟨St.up hb3 (St.up hb2 h),St.upd_same _ _ _,St.up hb3 (St.upd_same _ _ _),fun x p _ h2=>St.up hb3 (St.up hb2 h2),(fun e=>by rw[e,h] at hb2;cases hb2),(fun e=>by rw[e,St.up hb2 h] at hb3;cases hb3),(fun e=>by rw[e,St.upd_same] at hb3;cases hb3),hb2,St.no hb3⟩
 change awp _ _ _ _ ((S.upd b2 (.obj 54 stepZ)).upd b3 (.obj 54 (.int .i64 9::stepZ.tail))) _;generalize (S.upd b2 (.obj 54 stepZ)).upd b3 (.obj 54 (.int .i64 9::stepZ.tail))=F at *;have ht:=rtake_ok1 (G:=G) hE.rd;unfold takeR at ht;rw[if_pos rfl] at ht;refine awp_seq2 fun K hK hQ=>?_
 conv=>whnf
 refine ht.mono ?_
 cases ws0 with
 | nil=>
   dsimp only;rintro o T ⟨rfl,rfl⟩;have hE1:=hE.rdr [] 82;conv=>whnf
   refine hK _ _ ?_;clear hK hQ K;refine awp_seq2 fun K hK hQ=>?_
   conv=>whnf
   refine⟨_,_,hE1.rd,?_⟩;conv=>whnf
   refine hK _ _ ?_;clear hK hQ K;conv=>whnf
   refine⟨_,_,hE1.sv,?_⟩;conv=>whnf
   refine⟨_,_,hE1.rs,?_⟩;conv=>whnf
   refine⟨_,_,St.upd_same _ _ _,?_⟩;conv=>whnf
   refine⟨_,_,⟨{ zeroV with kind:=9 },_,_,rfl,rfl,List.suffix_refl _,by rw[← hR];exact Agr.of rfl (fun h=>by cases h)⟩,hE1.fin _,⟨rfl,rfl,rfl,rfl,rfl,rfl,rfl,rfl,rfl,rfl,rfl⟩⟩
 | cons w l=>
   dsimp only;rintro o T ⟨rfl,rfl⟩;have hE1:=hE.rdr l 0;clear ht hE;generalize F.upd rb (rdO l 0)=T at *;have hsl:∀ y∈l,y.size≤9000000:=fun y hy=>hw0 y (by simp[hy])
   conv=>whnf
   refine hK _ _ ?_;clear hK hQ K;refine awp_seq2 fun K hK hQ=>?_
   conv=>whnf
   refine⟨_,_,hE1.rd,?_⟩;conv=>whnf
   unfold conclG at hR;dsimp only at hR
   by_cases k1:w=noneS
   ·rw[show decide (w=(⟨#[78,79,78,69]⟩:ByteArray))=true from decide_eq_true k1];rw[if_pos k1] at hR;conv=>whnf
    refine⟨_,_,hE1.sv,?_⟩;conv=>whnf
    have hE2:=hE1.put [.int .i64 9,.str ByteArray.empty,.nils,.nils,.str ByteArray.empty,.nils,.nils,.int .i64 1,.str ByteArray.empty,.str ByteArray.empty]
    refine hK _ _ ?_;clear hK hQ K;conv=>whnf
    refine⟨_,_,hE2.sv,?_⟩;conv=>whnf
    refine⟨_,_,hE2.rs,?_⟩;conv=>whnf
    refine⟨_,_,St.upd_same _ _ _,?_⟩;conv=>whnf
    refine⟨_,_,⟨{ zeroV with kind:=9,n6:=1 },_,_,rfl,rfl,List.suffix_cons _ _,by rw[← hR];exact Agr.of rfl (fun _=>⟨rfl,rfl⟩)⟩,hE2.fin _,⟨rfl,rfl,rfl,rfl,rfl,rfl,rfl,rfl,rfl,rfl,rfl⟩⟩
   rw[show decide (w=(⟨#[78,79,78,69]⟩:ByteArray))=false from decide_eq_false k1];rw[if_neg k1] at hR;conv=>whnf
   by_cases k2:w=unsatS
   ·have k2':w≠satS:=by rw[k2];decide
    rw[show decide (w=(⟨#[85,78,83,65,84]⟩:ByteArray))=true from decide_eq_true k2];rw[if_neg k2',if_pos k2] at hR;conv=>whnf
    refine⟨_,_,hE1.sv,?_⟩;conv=>whnf
    have hE2:=hE1.put [.int .i64 9,.str ByteArray.empty,.nils,.nils,.str ByteArray.empty,.nils,.nils,.int .i64 2,.str ByteArray.empty,.str ByteArray.empty]
    refine(more_ok (G:=G) hE2.rd).mono ?_;rintro o T2 ⟨rfl,rfl⟩
    cases l with
    | nil=>
      conv=>whnf
      refine hK _ _ ?_;clear hK hQ K;conv=>whnf
      refine⟨_,_,hE2.sv,?_⟩;conv=>whnf
      refine⟨_,_,hE2.rs,?_⟩;conv=>whnf
      refine⟨_,_,St.upd_same _ _ _,?_⟩;conv=>whnf
      refine⟨_,_,⟨{ zeroV with kind:=9,n6:=2 },_,_,rfl,rfl,List.suffix_cons _ _,by rw[← hR];exact Agr.of rfl (fun _=>⟨rfl,rfl⟩)⟩,hE2.fin _,⟨rfl,rfl,rfl,rfl,rfl,rfl,rfl,rfl,rfl,rfl,rfl⟩⟩
    | cons x l=>
      obtain⟨oo,ho⟩:∃ o,oneR colonS (x::l) 0=o:=⟨_,rfl⟩;obtain⟨m,hm⟩:∃ o,numR 1 oo.1 oo.2=o:=⟨_,rfl⟩;have sf1:oo.1 <:+ x::l:=by rw[← ho];exact oneR_suffix _ _ _
      have sf2:m.2.2 <:+ x::l:=by rw[← hm];exact(numR_suffix _ _ _).trans sf1
      rw[show moreR (x::l) 0=true from by simp[moreR]]
      conv=>whnf
      refine(one_ok (G:=G) hE2.rd colonS).mono ?_;rw[ho];rintro o T3 ⟨rfl,rfl⟩;have hE3:=hE2.rdr oo.1 oo.2;conv=>whnf
      refine(number1_ok (G:=G) hE3.rd (fun w hw=>hsl w (sf1.mem hw)) 1 (by omega) (by omega)).mono ?_
      rw[hm];rintro o T3 ⟨rfl,rfl⟩;have hE4:=hE3.rdr m.2.2 m.2.1;conv=>whnf
      intro bb hbb;have hE5:=hE4.more hbb (.tip 9 1 1);conv=>whnf
      refine⟨_,_,hE5.sv,?_⟩;conv=>whnf
      have hE6:=hE5.put [.int .i64 9,.str ByteArray.empty,.nils,.nils,.str ByteArray.empty,.nils,.sl (.own bb) 1 [[.str m.1]],.int .i64 2,.str ByteArray.empty,.str ByteArray.empty]
      refine hK _ _ ?_;clear hK hQ K;conv=>whnf
      refine⟨_,_,hE6.sv,?_⟩;conv=>whnf
      refine⟨_,_,hE6.rs,?_⟩;conv=>whnf
      refine⟨_,_,St.upd_same _ _ _,?_⟩;conv=>whnf
      refine⟨_,_,⟨{ zeroV with kind:=9,n6:=2,ids:=[m.1] },_,_,rfl,rfl,sf2.trans (List.suffix_cons _ _),by rw[← hR];exact id_agr (by simp) ho hm⟩,hE6.fin _,⟨rfl,rfl,rfl,rfl,rfl,rfl,⟨rfl,rfl⟩,rfl,rfl,rfl,rfl⟩⟩
   rw[show decide (w=(⟨#[85,78,83,65,84]⟩:ByteArray))=false from decide_eq_false k2];conv=>whnf
   by_cases k3:w=satS
   ·rw[show decide (w=(⟨#[83,65,84]⟩:ByteArray))=true from decide_eq_true k3];rw[if_pos k3] at hR;conv=>whnf
    refine⟨_,_,hE1.sv,?_⟩;conv=>whnf
    have hE2:=hE1.put [.int .i64 9,.str ByteArray.empty,.nils,.nils,.str ByteArray.empty,.nils,.nils,.int .i64 3,.str ByteArray.empty,.str ByteArray.empty]
    refine hK _ _ ?_;clear hK hQ K;conv=>whnf
    refine⟨_,_,hE2.sv,?_⟩;conv=>whnf
    refine⟨_,_,hE2.rs,?_⟩;conv=>whnf
    refine⟨_,_,St.upd_same _ _ _,?_⟩;conv=>whnf
    refine⟨_,_,⟨{ zeroV with kind:=9,n6:=3 },_,_,rfl,rfl,List.suffix_cons _ _,by rw[← hR];exact Agr.of rfl (fun _=>⟨rfl,rfl⟩)⟩,hE2.fin _,⟨rfl,rfl,rfl,rfl,rfl,rfl,rfl,rfl,rfl,rfl,rfl⟩⟩
   rw[show decide (w=(⟨#[83,65,84]⟩:ByteArray))=false from decide_eq_false k3];rw[if_neg k3,if_neg k2] at hR;conv=>whnf
   by_cases k4:w=boundsS
   ·have k4':w≠allS:=by rw[k4];decide
    rw[show decide (w=(⟨#[66,79,85,78,68,83]⟩:ByteArray))=true from decide_eq_true k4];rw[if_neg k4',if_pos k4] at hR;obtain⟨n,hn⟩:∃ o,numR (-1) l 0=o:=⟨_,rfl⟩;have sf1:n.2.2 <:+ l:=by rw[← hn];exact numR_suffix _ _ _
    conv=>whnf
    refine⟨_,_,hE1.sv,?_⟩;conv=>whnf
    have hE2:=hE1.put [.int .i64 9,.str ByteArray.empty,.nils,.nils,.str ByteArray.empty,.nils,.nils,.int .i64 5,.str ByteArray.empty,.str ByteArray.empty]
    refine(number1_ok (G:=G) hE2.rd hsl (-1) (by omega) (by omega)).mono ?_
    rw[hn];rintro o T3 ⟨rfl,rfl⟩;have hE3:=hE2.rdr n.2.2 n.2.1;conv=>whnf
    refine⟨_,_,hE3.sv,?_⟩;conv=>whnf
    have hE4:=hE3.put [.int .i64 9,.str ByteArray.empty,.nils,.nils,.str ByteArray.empty,.nils,.nils,.int .i64 5,.str n.1,.str ByteArray.empty]
    refine(is_ok (G:=G) hE4.rd colonS).mono ?_
    cases hi:isR n.2.2 n.2.1 colonS with
    | false=>
      obtain⟨k,hk⟩:∃ o,numR (-1) n.2.2 n.2.1=o:=⟨_,rfl⟩;have sf2:k.2.2 <:+ l:=by rw[← hk];exact(numR_suffix _ _ _).trans sf1
      rintro o T3 ⟨rfl,rfl⟩;conv=>whnf
      refine(number1_ok (G:=G) hE4.rd (fun w hw=>hsl w (sf1.mem hw)) (-1) (by omega) (by omega)).mono ?_
      rw[hk];rintro o T3 ⟨rfl,rfl⟩;have hE5:=hE4.rdr k.2.2 k.2.1;conv=>whnf
      refine⟨_,_,hE5.sv,?_⟩;conv=>whnf
      have hE6:=hE5.put [.int .i64 9,.str ByteArray.empty,.nils,.nils,.str ByteArray.empty,.nils,.nils,.int .i64 5,.str n.1,.str k.1]
      refine hK _ _ ?_;clear hK hQ K;conv=>whnf
      refine⟨_,_,hE6.sv,?_⟩;conv=>whnf
      refine⟨_,_,hE6.rs,?_⟩;conv=>whnf
      refine⟨_,_,St.upd_same _ _ _,?_⟩;conv=>whnf
      refine⟨_,_,⟨{ zeroV with kind:=9,n6:=5,s7:=n.1,s8:=k.1 },_,_,rfl,rfl,sf2.trans (List.suffix_cons _ _),by rw[← hR];exact bounds_agr1 (v:={ zeroV with kind:=9 }) hn hi hk⟩,hE6.fin _,⟨rfl,rfl,rfl,rfl,rfl,rfl,rfl,rfl,rfl,rfl,rfl⟩⟩
    | true=>
      obtain⟨h1,h2⟩:n.2.1=0∧n.2.2.head? = some colonS:=by simpa [isR] using hi
      have ho:oneR colonS n.2.2 n.2.1=(n.2.2.tail,0):=by
       rw[h1]
       cases hn2:n.2.2 with
       | nil=>rw[hn2] at h2;cases h2
       | cons x l=>rw[hn2] at h2;simp at h2;simp[oneR,h2]
      obtain⟨m,hm⟩:∃ o,numR 1 n.2.2.tail 0=o:=⟨_,rfl⟩;have sf2:n.2.2.tail <:+ l:=(List.tail_suffix _).trans sf1;have sf3:m.2.2 <:+ l:=by rw[← hm];exact(numR_suffix _ _ _).trans sf2
      obtain⟨k,hk⟩:∃ o,numR (-1) m.2.2 m.2.1=o:=⟨_,rfl⟩;have sf4:k.2.2 <:+ l:=by rw[← hk];exact(numR_suffix _ _ _).trans sf3
      rintro o T3 ⟨rfl,rfl⟩;conv=>whnf
      refine(one_ok (G:=G) hE4.rd colonS).mono ?_;rw[ho];rintro o T3 ⟨rfl,rfl⟩;have hE5:=hE4.rdr n.2.2.tail 0;conv=>whnf
      refine(number1_ok (G:=G) hE5.rd (fun w hw=>hsl w (sf2.mem hw)) 1 (by omega) (by omega)).mono ?_
      rw[hm];rintro o T3 ⟨rfl,rfl⟩;have hE6:=hE5.rdr m.2.2 m.2.1;conv=>whnf
      intro bb hbb;have hE7:=hE6.more hbb (.tip 9 1 1);conv=>whnf
      refine⟨_,_,hE7.sv,?_⟩;conv=>whnf
      have hE8:=hE7.put [.int .i64 9,.str ByteArray.empty,.nils,.nils,.str ByteArray.empty,.nils,.sl (.own bb) 1 [[.str m.1]],.int .i64 5,.str n.1,.str ByteArray.empty]
      refine(number1_ok (G:=G) hE8.rd (fun w hw=>hsl w (sf3.mem hw)) (-1) (by omega) (by omega)).mono ?_
      rw[hk];rintro o T3 ⟨rfl,rfl⟩;have hE9:=hE8.rdr k.2.2 k.2.1;conv=>whnf
      refine⟨_,_,hE9.sv,?_⟩;conv=>whnf
      have hE10:=hE9.put [.int .i64 9,.str ByteArray.empty,.nils,.nils,.str ByteArray.empty,.nils,.sl (.own bb) 1 [[.str m.1]],.int .i64 5,.str n.1,.str k.1]
      refine hK _ _ ?_;clear hK hQ K;conv=>whnf
      refine⟨_,_,hE10.sv,?_⟩;conv=>whnf
      refine⟨_,_,hE10.rs,?_⟩;conv=>whnf
      refine⟨_,_,St.upd_same _ _ _,?_⟩;conv=>whnf
      refine⟨_,_,⟨{ zeroV with kind:=9,n6:=5,s7:=n.1,ids:=[m.1],s8:=k.1 },_,_,rfl,rfl,sf4.trans (List.suffix_cons _ _),by rw[← hR];exact bounds_agr2 (v:={ zeroV with kind:=9 }) hn hi hm hk⟩,hE10.fin _,⟨rfl,rfl,rfl,rfl,rfl,rfl,⟨rfl,rfl⟩,rfl,rfl,rfl,rfl⟩⟩
   rw[show decide (w=(⟨#[66,79,85,78,68,83]⟩:ByteArray))=false from decide_eq_false k4];conv=>whnf
   by_cases k5:w=allS
   ·rw[show decide (w=(⟨#[65,76,76]⟩:ByteArray))=true from decide_eq_true k5];rw[if_pos k5] at hR;obtain⟨n,hn⟩:∃ o,numR 0 l 0=o:=⟨_,rfl⟩;have sf1:n.2.2 <:+ l:=by rw[← hn];exact numR_suffix _ _ _
    obtain⟨oo,ho⟩:∃ o,oneR colonS n.2.2 n.2.1=o:=⟨_,rfl⟩;have sf2:oo.1 <:+ l:=by rw[← ho];exact(oneR_suffix _ _ _).trans sf1
    obtain⟨m,hm⟩:∃ o,numR 1 oo.1 oo.2=o:=⟨_,rfl⟩;have sf3:m.2.2 <:+ l:=by rw[← hm];exact(numR_suffix _ _ _).trans sf2
    conv=>whnf
    refine⟨_,_,hE1.sv,?_⟩;conv=>whnf
    have hE2:=hE1.put [.int .i64 9,.str ByteArray.empty,.nils,.nils,.str ByteArray.empty,.nils,.nils,.int .i64 6,.str ByteArray.empty,.str ByteArray.empty]
    refine(number1_ok (G:=G) hE2.rd hsl 0 (by omega) (by omega)).mono ?_
    rw[hn];rintro o T3 ⟨rfl,rfl⟩;have hE3:=hE2.rdr n.2.2 n.2.1;conv=>whnf
    refine⟨_,_,hE3.sv,?_⟩;conv=>whnf
    have hE4:=hE3.put [.int .i64 9,.str ByteArray.empty,.nils,.nils,.str ByteArray.empty,.nils,.nils,.int .i64 6,.str ByteArray.empty,.str n.1]
    refine(one_ok (G:=G) hE4.rd colonS).mono ?_;rw[ho];rintro o T3 ⟨rfl,rfl⟩;have hE5:=hE4.rdr oo.1 oo.2;conv=>whnf
    refine(number1_ok (G:=G) hE5.rd (fun w hw=>hsl w (sf2.mem hw)) 1 (by omega) (by omega)).mono ?_
    rw[hm];rintro o T3 ⟨rfl,rfl⟩;have hE6:=hE5.rdr m.2.2 m.2.1;conv=>whnf
    intro bb hbb;have hE7:=hE6.more hbb (.tip 9 1 1);conv=>whnf
    refine⟨_,_,hE7.sv,?_⟩;conv=>whnf
    have hE8:=hE7.put [.int .i64 9,.str ByteArray.empty,.nils,.nils,.str ByteArray.empty,.nils,.sl (.own bb) 1 [[.str m.1]],.int .i64 6,.str ByteArray.empty,.str n.1]
    refine hK _ _ ?_;clear hK hQ K;conv=>whnf
    refine⟨_,_,hE8.sv,?_⟩;conv=>whnf
    refine⟨_,_,hE8.rs,?_⟩;conv=>whnf
    refine⟨_,_,St.upd_same _ _ _,?_⟩;conv=>whnf
    refine⟨_,_,⟨{ zeroV with kind:=9,n6:=6,s8:=n.1,ids:=[m.1] },_,_,rfl,rfl,sf3.trans (List.suffix_cons _ _),by rw[← hR];exact all_agr (v:={ zeroV with kind:=9 }) hn ho hm⟩,hE8.fin _,⟨rfl,rfl,rfl,rfl,rfl,rfl,⟨rfl,rfl⟩,rfl,rfl,rfl,rfl⟩⟩
   rw[show decide (w=(⟨#[65,76,76]⟩:ByteArray))=false from decide_eq_false k5];rw[if_neg k5,if_neg k4] at hR;conv=>whnf
   refine(rfail_ok (G:=G) hE1.rd 80).mono ?_;rw[if_pos rfl];rintro o T3 ⟨rfl,rfl⟩;have hE2:=hE1.rdr l 80;conv=>whnf
   refine hK _ _ ?_;clear hK hQ K;conv=>whnf
   refine⟨_,_,hE2.sv,?_⟩;conv=>whnf
   refine⟨_,_,hE2.rs,?_⟩;conv=>whnf
   refine⟨_,_,St.upd_same _ _ _,?_⟩;conv=>whnf
   refine⟨_,_,⟨{ zeroV with kind:=9 },_,_,rfl,rfl,List.suffix_cons _ _,by rw[← hR];exact Agr.of rfl (fun h=>absurd (show(80:Int)=0 from h) (by decide))⟩,hE2.fin _,⟨rfl,rfl,rfl,rfl,rfl,rfl,rfl,rfl,rfl,rfl,rfl⟩⟩
def tabR(w:ByteArray)(ws:List ByteArray):RetG:=match tabG w with | some f=>f ws zeroV | none=>(80,ws,zeroV)
theorem parseW_tabR(w:ByteArray)(l:List ByteArray):parseW (w::l)=finG (tabR w l):=by
 unfold parseW tabR;dsimp only
 cases tabG w<;>rfl
def LoopR{α:Type}(W:α×Int×List ByteArray)(a:α)(e:Int)(ws:List ByteArray):Prop:=e=W.2.1∧(e=0→a=W.1∧ws=W.2.2)
theorem one_wordsR(x:ByteArray)(ws:List ByteArray)(e:Int):oneR x ws e=wordsR [x] ws e:=by simp[wordsR]
theorem numR_one{low:Int}{w:ByteArray}{l:List ByteArray}:numR low (w::l) 0=if isNumV w.data.toList low then (w,0,l) else (⟨#[]⟩,81,l):=rfl
theorem litR_one{w:ByteArray}{l:List ByteArray}:litR (w::l) 0=if litV w.data.toList=0 then (0,81,l) else (litV w.data.toList,0,l):=rfl
theorem idsG_step{ws:List ByteArray}(hne:ws≠[])(ids:List ByteArray){n:ByteArray×Int×List ByteArray}(hn:numR 1 ws 0=n) :
 (n.2.1=0→idsG ws ids=idsG n.2.2 (ids++[n.1]))∧(n.2.1≠0→(idsG ws ids).2.1=n.2.1)∧n.2.2.length<ws.length:=by
 cases ws with
 | nil=>exact absurd rfl hne
 | cons w l=>
   rw[numR_one] at hn;unfold idsG
   by_cases h:isNumV w.data.toList 1=true
   ·rw[if_pos h] at hn ⊢;subst hn;exact⟨fun _=>by cases l<;>rfl,fun h=>absurd rfl h,by simp⟩
   ·rw[if_neg h] at hn ⊢;subst hn;exact⟨fun h=>absurd (show(81:Int)=0 from h) (by decide),fun _=>rfl,by simp⟩
theorem litsG_step{ws:List ByteArray}(hne:ws≠[])(ids:List Int){n:Int×Int×List ByteArray}(hn:litR ws 0=n) :
 (n.2.1=0→litsG ws ids=litsG n.2.2 (ids++[n.1]))∧(n.2.1≠0→(litsG ws ids).2.1=n.2.1)∧n.2.2.length<ws.length:=by
 cases ws with
 | nil=>exact absurd rfl hne
 | cons w l=>
   rw[litR_one] at hn;unfold litsG
   by_cases h:litV w.data.toList=0
   ·rw[if_pos h] at hn ⊢;subst hn;exact⟨fun h=>absurd (show(81:Int)=0 from h) (by decide),fun _=>rfl,by simp⟩
   ·rw[if_neg h] at hn ⊢;subst hn;exact⟨fun _=>by cases l<;>rfl,fun h=>absurd rfl h,by simp⟩
theorem LoopR.ids{W:List ByteArray×Int×List ByteArray}{a:List ByteArray}{e:Int}{ws:List ByteArray}(hm:moreR ws e=false)(h1:e=0→idsG ws a=W)(h2:e≠0→W.2.1=e):LoopR W a e ws:=by
 by_cases h:e=0
 ·subst h;have:ws=[]:=by simpa [moreR] using hm
  subst this;rw[← h1 rfl];exact⟨rfl,fun _=>⟨rfl,rfl⟩⟩
 ·exact⟨(h2 h).symm,fun hh=>absurd hh h⟩
theorem LoopR.lits{W:List Int×Int×List ByteArray}{a:List Int}{e:Int}{ws:List ByteArray}(hm:moreR ws e=false)(h1:e=0→litsG ws a=W)(h2:e≠0→W.2.1=e):LoopR W a e ws:=by
 by_cases h:e=0
 ·subst h;have:ws=[]:=by simpa [moreR] using hm
  subst this;rw[← h1 rfl];exact⟨rfl,fun _=>⟨rfl,rfl⟩⟩
 ·exact⟨(h2 h).symm,fun hh=>absurd hh h⟩
theorem polF_suffix:∀ (f:Nat) (ws:List ByteArray) (ops:List OpV),(polF f ws ops).2.2 <:+ ws
 | 0,ws,ops=>List.suffix_refl _
 | f+1,ws,ops=>by
   unfold polF
   split
   ·split
    ·exact(polF_suffix f _ _).trans (opG_suffix ws)
    ·exact opG_suffix ws
   ·exact List.suffix_refl _
theorem step_head{S:St}{rb:Nat}{ws0:List ByteArray}(h:S rb=some (rdO ws0 0))(hw0:∀ w∈ws0,w.size≤9000000)(hn0:ws0.length≤9000000){w:ByteArray}(hw:w=kHead) :
 Triple P (C G) 58 [.ref rb 0,.str w] S fun o S'=>∃ v' ws' e',o=.ret (stepAV v')∧S'=S.upd rb (rdO ws' e')∧ws' <:+ ws0∧Agr v' ws' e' (tabR w ws0):=by
 obtain⟨R,hR⟩:∃ R,tabR w ws0=R:=⟨_,rfl⟩;rw[hR];refine triple_of_awp (hT G) hm Tryz.func58 rfl (by decide +kernel) rfl (by decide +kernel) (by show 2≤_;decide +kernel) rfl ?_
 refine awp_seq2 fun K hK hQ=>?_
 conv=>whnf
 intro b2 hb2;conv=>whnf
 refine hK _ _ ?_;clear hK hQ K;refine awp_seq2 fun K hK hQ=>?_
 conv=>whnf
 intro b3 hb3;conv=>whnf
 refine hK _ _ ?_;clear hK hQ K;have hE:EndS S ((S.upd b2 (.obj 54 stepZ)).upd b3 (.obj 54 stepZ)) rb b2 b3 ws0 0 stepZ:=
  ⟨St.up hb3 (St.up hb2 h),St.upd_same _ _ _,St.up hb3 (St.upd_same _ _ _),fun x p _ h2=>St.up hb3 (St.up hb2 h2),(fun e=>by rw[e,h] at hb2;cases hb2),(fun e=>by rw[e,St.up hb2 h] at hb3;cases hb3),(fun e=>by rw[e,St.upd_same] at hb3;cases hb3),hb2,St.no hb3⟩
 change awp _ _ _ _ ((S.upd b2 (.obj 54 stepZ)).upd b3 (.obj 54 stepZ)) _;generalize (S.upd b2 (.obj 54 stepZ)).upd b3 (.obj 54 stepZ)=F at *;clear hb2 hb3;refine awp_seq2 fun K hK hQ=>?_
 conv=>whnf
 rw[show decide (w=(⟨#[112,115,101,117,100,111,45,66,111,111,108,101,97,110]⟩:ByteArray))=true from decide_eq_true hw];conv=>whnf
 unfold tabR tabG at hR;rw[if_pos hw] at hR;dsimp only at hR;refine⟨_,_,hE.sv,?_⟩;conv=>whnf
 have hE2:=hE.put [.int .i64 1,.str ByteArray.empty,.nils,.nils,.str ByteArray.empty,.nils,.nils,.int .i64 0,.str ByteArray.empty,.str ByteArray.empty]
 intro bb hbb;have hE3:=hE2.more hbb (.tip 9 1 3);conv=>whnf
 refine Triple.use (words1_ok' hE3.rd headWords (by decide) .any) (by exact⟨rfl,⟨rfl,rfl⟩,trivial⟩) ?_
 rintro o T3 ⟨rfl,rfl⟩;have hE4:=hE3.rdr (wordsR headWords ws0 0).1 (wordsR headWords ws0 0).2;rw[wordsR_exact] at hE4 ⊢;conv=>whnf
 refine hK _ _ ?_;clear hK hQ K;conv=>whnf
 refine⟨_,_,hE4.sv,?_⟩;conv=>whnf
 refine⟨_,_,hE4.rs,?_⟩;conv=>whnf
 refine⟨_,_,St.upd_same _ _ _,?_⟩;conv=>whnf
 refine⟨_,_,⟨{ zeroV with kind:=1 },_,_,rfl,rfl,exactG_suffix _ _,by rw[← hR];exact Agr.of rfl (fun _=>⟨rfl,rfl⟩)⟩,hE4.fin _,⟨rfl,rfl,rfl,rfl,rfl,rfl,rfl,rfl,rfl,rfl,rfl⟩⟩
theorem step_last{S:St}{rb:Nat}{ws0:List ByteArray}(h:S rb=some (rdO ws0 0))(hw0:∀ w∈ws0,w.size≤9000000)(hn0:ws0.length≤9000000){w:ByteArray}(hw:w=kEnd) :
 Triple P (C G) 58 [.ref rb 0,.str w] S fun o S'=>∃ v' ws' e',o=.ret (stepAV v')∧S'=S.upd rb (rdO ws' e')∧ws' <:+ ws0∧Agr v' ws' e' (tabR w ws0):=by
 obtain⟨R,hR⟩:∃ R,tabR w ws0=R:=⟨_,rfl⟩;rw[hR];refine triple_of_awp (hT G) hm Tryz.func58 rfl (by decide +kernel) rfl (by decide +kernel) (by show 2≤_;decide +kernel) rfl ?_
 refine awp_seq2 fun K hK hQ=>?_
 conv=>whnf
 intro b2 hb2;conv=>whnf
 refine hK _ _ ?_;clear hK hQ K;refine awp_seq2 fun K hK hQ=>?_
 conv=>whnf
 intro b3 hb3;conv=>whnf
 refine hK _ _ ?_;clear hK hQ K;have hE:EndS S ((S.upd b2 (.obj 54 stepZ)).upd b3 (.obj 54 stepZ)) rb b2 b3 ws0 0 stepZ:=
  ⟨St.up hb3 (St.up hb2 h),St.upd_same _ _ _,St.up hb3 (St.upd_same _ _ _),fun x p _ h2=>St.up hb3 (St.up hb2 h2),(fun e=>by rw[e,h] at hb2;cases hb2),(fun e=>by rw[e,St.up hb2 h] at hb3;cases hb3),(fun e=>by rw[e,St.upd_same] at hb3;cases hb3),hb2,St.no hb3⟩
 change awp _ _ _ _ ((S.upd b2 (.obj 54 stepZ)).upd b3 (.obj 54 stepZ)) _;generalize (S.upd b2 (.obj 54 stepZ)).upd b3 (.obj 54 stepZ)=F at *;clear hb2 hb3;refine awp_seq2 fun K hK hQ=>?_
 conv=>whnf
 rw[show decide (w=(⟨#[112,115,101,117,100,111,45,66,111,111,108,101,97,110]⟩:ByteArray))=false from decide_eq_false (show ¬ w=kHead from by rw[hw];decide)]
 conv=>whnf
 rw[show decide (w=(⟨#[102]⟩:ByteArray))=false from decide_eq_false (show ¬ w=kF from by rw[hw];decide)]
 conv=>whnf
 rw[show decide (w=(⟨#[112,111,108]⟩:ByteArray))=false from decide_eq_false (show ¬ w=kPol from by rw[hw];decide)]
 conv=>whnf
 rw[show decide (w=(⟨#[114,117,112]⟩:ByteArray))=false from decide_eq_false (show ¬ w=kRup from by rw[hw];decide)]
 conv=>whnf
 rw[show decide (w=(⟨#[101]⟩:ByteArray))=false from decide_eq_false (show ¬ w=kE from by rw[hw];decide)]
 conv=>whnf
 rw[show decide (w=(⟨#[115,111,108,105]⟩:ByteArray))=false from decide_eq_false (show ¬ w=kSoli from by rw[hw];decide)]
 conv=>whnf
 rw[show decide (w=(⟨#[115,111,108,120]⟩:ByteArray))=false from decide_eq_false (show ¬ w=kSolx from by rw[hw];decide)]
 conv=>whnf
 rw[show decide (w=(⟨#[100,101,108]⟩:ByteArray))=false from decide_eq_false (show ¬ w=kDel from by rw[hw];decide)]
 conv=>whnf
 rw[show decide (w=(⟨#[111,117,116,112,117,116]⟩:ByteArray))=false from decide_eq_false (show ¬ w=kOut from by rw[hw];decide)]
 conv=>whnf
 rw[show decide (w=(⟨#[99,111,110,99,108,117,115,105,111,110]⟩:ByteArray))=false from decide_eq_false (show ¬ w=kConc from by rw[hw];decide)]
 conv=>whnf
 rw[show decide (w=(⟨#[101,110,100]⟩:ByteArray))=true from decide_eq_true hw];conv=>whnf
 unfold tabR tabG at hR;rw[if_neg (show ¬ w=kHead from by rw[hw];decide),if_neg (show ¬ w=kF from by rw[hw];decide),if_neg (show ¬ w=kPol from by rw[hw];decide),if_neg (show ¬ w=kRup from by rw[hw];decide),if_neg (show ¬ w=kSoli from by rw[hw];decide),if_neg (show ¬ w=kSolx from by rw[hw];decide),if_neg (show ¬ w=kE from by rw[hw];decide),if_neg (show ¬ w=kDel from by rw[hw];decide),if_neg (show ¬ w=kStar from by rw[hw];decide),if_neg (show ¬ w=kOut from by rw[hw];decide),if_neg (show ¬ w=kConc from by rw[hw];decide),if_pos hw] at hR
 dsimp only at hR;refine⟨_,_,hE.sv,?_⟩;conv=>whnf
 have hE2:=hE.put [.int .i64 10,.str ByteArray.empty,.nils,.nils,.str ByteArray.empty,.nils,.nils,.int .i64 0,.str ByteArray.empty,.str ByteArray.empty]
 intro bb hbb;have hE3:=hE2.more hbb (.tip 9 1 2);conv=>whnf
 refine Triple.use (words1_ok' hE3.rd lastWords (by decide) .any) (by exact⟨rfl,⟨rfl,rfl⟩,trivial⟩) ?_
 rintro o T3 ⟨rfl,rfl⟩;have hE4:=hE3.rdr (wordsR lastWords ws0 0).1 (wordsR lastWords ws0 0).2;rw[wordsR_exact] at hE4 ⊢;conv=>whnf
 refine hK _ _ ?_;clear hK hQ K;conv=>whnf
 refine⟨_,_,hE4.sv,?_⟩;conv=>whnf
 refine⟨_,_,hE4.rs,?_⟩;conv=>whnf
 refine⟨_,_,St.upd_same _ _ _,?_⟩;conv=>whnf
 refine⟨_,_,⟨{ zeroV with kind:=10 },_,_,rfl,rfl,exactG_suffix _ _,by rw[← hR];exact Agr.of rfl (fun _=>⟨rfl,rfl⟩)⟩,hE4.fin _,⟨rfl,rfl,rfl,rfl,rfl,rfl,rfl,rfl,rfl,rfl,rfl⟩⟩
theorem step_count{S:St}{rb:Nat}{ws0:List ByteArray}(h:S rb=some (rdO ws0 0))(hw0:∀ w∈ws0,w.size≤9000000)(hn0:ws0.length≤9000000){w:ByteArray}(hw:w=kF) :
 Triple P (C G) 58 [.ref rb 0,.str w] S fun o S'=>∃ v' ws' e',o=.ret (stepAV v')∧S'=S.upd rb (rdO ws' e')∧ws' <:+ ws0∧Agr v' ws' e' (tabR w ws0):=by
 obtain⟨R,hR⟩:∃ R,tabR w ws0=R:=⟨_,rfl⟩;rw[hR];refine triple_of_awp (hT G) hm Tryz.func58 rfl (by decide +kernel) rfl (by decide +kernel) (by show 2≤_;decide +kernel) rfl ?_
 refine awp_seq2 fun K hK hQ=>?_
 conv=>whnf
 intro b2 hb2;conv=>whnf
 refine hK _ _ ?_;clear hK hQ K;refine awp_seq2 fun K hK hQ=>?_
 conv=>whnf
 intro b3 hb3;conv=>whnf
 refine hK _ _ ?_;clear hK hQ K;have hE:EndS S ((S.upd b2 (.obj 54 stepZ)).upd b3 (.obj 54 stepZ)) rb b2 b3 ws0 0 stepZ:=
  ⟨St.up hb3 (St.up hb2 h),St.upd_same _ _ _,St.up hb3 (St.upd_same _ _ _),fun x p _ h2=>St.up hb3 (St.up hb2 h2),(fun e=>by rw[e,h] at hb2;cases hb2),(fun e=>by rw[e,St.up hb2 h] at hb3;cases hb3),(fun e=>by rw[e,St.upd_same] at hb3;cases hb3),hb2,St.no hb3⟩
 change awp _ _ _ _ ((S.upd b2 (.obj 54 stepZ)).upd b3 (.obj 54 stepZ)) _;generalize (S.upd b2 (.obj 54 stepZ)).upd b3 (.obj 54 stepZ)=F at *;clear hb2 hb3;refine awp_seq2 fun K hK hQ=>?_
 conv=>whnf
 rw[show decide (w=(⟨#[112,115,101,117,100,111,45,66,111,111,108,101,97,110]⟩:ByteArray))=false from decide_eq_false (show ¬ w=kHead from by rw[hw];decide)]
 conv=>whnf
 rw[show decide (w=(⟨#[102]⟩:ByteArray))=true from decide_eq_true hw];conv=>whnf
 unfold tabR tabG at hR;rw[if_neg (show ¬ w=kHead from by rw[hw];decide),if_pos hw] at hR
 dsimp only at hR;refine⟨_,_,hE.sv,?_⟩;conv=>whnf
 have hE2:=hE.put [.int .i64 2,.str ByteArray.empty,.nils,.nils,.str ByteArray.empty,.nils,.nils,.int .i64 0,.str ByteArray.empty,.str ByteArray.empty]
 obtain⟨n,hn⟩:∃ o,numR 0 ws0 0=o:=⟨_,rfl⟩;have hm:=number1_ok (G:=G) hE2.rd hw0 0 (by omega) (by omega)
 rw[hn] at hm;refine hm.mono ?_;rintro o T3 ⟨rfl,rfl⟩;have hE3:=hE2.rdr n.2.2 n.2.1;conv=>whnf
 refine⟨_,_,hE3.sv,?_⟩;conv=>whnf
 have hE4:=hE3.put [.int .i64 2,.str n.1,.nils,.nils,.str ByteArray.empty,.nils,.nils,.int .i64 0,.str ByteArray.empty,.str ByteArray.empty]
 refine hK _ _ ?_;clear hK hQ K;conv=>whnf
 refine⟨_,_,hE4.sv,?_⟩;conv=>whnf
 refine⟨_,_,hE4.rs,?_⟩;conv=>whnf
 refine⟨_,_,St.upd_same _ _ _,?_⟩;conv=>whnf
 refine⟨_,_,⟨{ zeroV with kind:=2,num:=n.1 },_,_,rfl,rfl,by rw[← hn];exact numR_suffix _ _ _,by rw[← hR,← hn];exact Agr.of rfl (fun _=>⟨rfl,rfl⟩)⟩,hE4.fin _,⟨rfl,rfl,rfl,rfl,rfl,rfl,rfl,rfl,rfl,rfl,rfl⟩⟩
theorem step_pol{S:St}{rb:Nat}{ws0:List ByteArray}(h:S rb=some (rdO ws0 0))(hw0:∀ w∈ws0,w.size≤9000000)(hn0:ws0.length≤9000000){w:ByteArray}(hw:w=kPol) :
 Triple P (C G) 58 [.ref rb 0,.str w] S fun o S'=>∃ v' ws' e',o=.ret (stepAV v')∧S'=S.upd rb (rdO ws' e')∧ws' <:+ ws0∧Agr v' ws' e' (tabR w ws0):=by
 obtain⟨R,hR⟩:∃ R,tabR w ws0=R:=⟨_,rfl⟩;rw[hR];refine triple_of_awp (hT G) hm Tryz.func58 rfl (by decide +kernel) rfl (by decide +kernel) (by show 2≤_;decide +kernel) rfl ?_
 refine awp_seq2 fun K hK hQ=>?_
 conv=>whnf
 intro b2 hb2;conv=>whnf
 refine hK _ _ ?_;clear hK hQ K;refine awp_seq2 fun K hK hQ=>?_
 conv=>whnf
 intro b3 hb3;conv=>whnf
 refine hK _ _ ?_;clear hK hQ K;have hE:EndS S ((S.upd b2 (.obj 54 stepZ)).upd b3 (.obj 54 stepZ)) rb b2 b3 ws0 0 stepZ:=
  ⟨St.up hb3 (St.up hb2 h),St.upd_same _ _ _,St.up hb3 (St.upd_same _ _ _),fun x p _ h2=>St.up hb3 (St.up hb2 h2),(fun e=>by rw[e,h] at hb2;cases hb2),(fun e=>by rw[e,St.up hb2 h] at hb3;cases hb3),(fun e=>by rw[e,St.upd_same] at hb3;cases hb3),hb2,St.no hb3⟩
 change awp _ _ _ _ ((S.upd b2 (.obj 54 stepZ)).upd b3 (.obj 54 stepZ)) _;generalize (S.upd b2 (.obj 54 stepZ)).upd b3 (.obj 54 stepZ)=F at *;clear hb2 hb3;refine awp_seq2 fun K hK hQ=>?_
 conv=>whnf
 rw[show decide (w=(⟨#[112,115,101,117,100,111,45,66,111,111,108,101,97,110]⟩:ByteArray))=false from decide_eq_false (show ¬ w=kHead from by rw[hw];decide)]
 conv=>whnf
 rw[show decide (w=(⟨#[102]⟩:ByteArray))=false from decide_eq_false (show ¬ w=kF from by rw[hw];decide)]
 conv=>whnf
 rw[show decide (w=(⟨#[112,111,108]⟩:ByteArray))=true from decide_eq_true hw];conv=>whnf
 unfold tabR tabG at hR;rw[if_neg (show ¬ w=kHead from by rw[hw];decide),if_neg (show ¬ w=kF from by rw[hw];decide),if_pos hw] at hR
 dsimp only at hR;refine⟨_,_,hE.sv,?_⟩;conv=>whnf
 have hE2:=hE.put [.int .i64 3,.str ByteArray.empty,.nils,.nils,.str ByteArray.empty,.nils,.nils,.int .i64 0,.str ByteArray.empty,.str ByteArray.empty]
 have hm:=ops_ok1 (G:=G) hE2.rd hw0 hn0
 obtain⟨n,hn⟩:∃ o,polF (ws0.length+2) ws0 []=o:=⟨_,rfl⟩;rw[hn] at hm;refine hm.mono ?_;rintro o T3 ⟨rfl,rfl⟩;have hE3:=hE2.rdr n.2.2 n.2.1;conv=>whnf
 refine⟨_,_,hE3.sv,?_⟩;conv=>whnf
 have hE4:=hE3.put [.int .i64 3,.str ByteArray.empty,.sl .any 3 (rowsO n.1),.nils,.str ByteArray.empty,.nils,.nils,.int .i64 0,.str ByteArray.empty,.str ByteArray.empty]
 refine hK _ _ ?_;clear hK hQ K;conv=>whnf
 refine⟨_,_,hE4.sv,?_⟩;conv=>whnf
 refine⟨_,_,hE4.rs,?_⟩;conv=>whnf
 refine⟨_,_,St.upd_same _ _ _,?_⟩;conv=>whnf
 refine⟨_,_,⟨{ zeroV with kind:=3,ops:=n.1 },_,_,rfl,rfl,by rw[← hn];exact polF_suffix _ _ _,by rw[← hR,← hn];exact Agr.of rfl (fun _=>⟨rfl,rfl⟩)⟩,hE4.fin _,⟨rfl,rfl,⟨rfl,rfl⟩,rfl,rfl,rfl,rfl,rfl,rfl,rfl,rfl⟩⟩
theorem step_output{S:St}{rb:Nat}{ws0:List ByteArray}(h:S rb=some (rdO ws0 0))(hw0:∀ w∈ws0,w.size≤9000000)(hn0:ws0.length≤9000000){w:ByteArray}(hw:w=kOut) :
 Triple P (C G) 58 [.ref rb 0,.str w] S fun o S'=>∃ v' ws' e',o=.ret (stepAV v')∧S'=S.upd rb (rdO ws' e')∧ws' <:+ ws0∧Agr v' ws' e' (tabR w ws0):=by
 obtain⟨R,hR⟩:∃ R,tabR w ws0=R:=⟨_,rfl⟩;rw[hR];refine triple_of_awp (hT G) hm Tryz.func58 rfl (by decide +kernel) rfl (by decide +kernel) (by show 2≤_;decide +kernel) rfl ?_
 refine awp_seq2 fun K hK hQ=>?_
 conv=>whnf
 intro b2 hb2;conv=>whnf
 refine hK _ _ ?_;clear hK hQ K;refine awp_seq2 fun K hK hQ=>?_
 conv=>whnf
 intro b3 hb3;conv=>whnf
 refine hK _ _ ?_;clear hK hQ K;have hE:EndS S ((S.upd b2 (.obj 54 stepZ)).upd b3 (.obj 54 stepZ)) rb b2 b3 ws0 0 stepZ:=
  ⟨St.up hb3 (St.up hb2 h),St.upd_same _ _ _,St.up hb3 (St.upd_same _ _ _),fun x p _ h2=>St.up hb3 (St.up hb2 h2),(fun e=>by rw[e,h] at hb2;cases hb2),(fun e=>by rw[e,St.up hb2 h] at hb3;cases hb3),(fun e=>by rw[e,St.upd_same] at hb3;cases hb3),hb2,St.no hb3⟩
 change awp _ _ _ _ ((S.upd b2 (.obj 54 stepZ)).upd b3 (.obj 54 stepZ)) _;generalize (S.upd b2 (.obj 54 stepZ)).upd b3 (.obj 54 stepZ)=F at *;clear hb2 hb3;refine awp_seq2 fun K hK hQ=>?_
 conv=>whnf
 rw[show decide (w=(⟨#[112,115,101,117,100,111,45,66,111,111,108,101,97,110]⟩:ByteArray))=false from decide_eq_false (show ¬ w=kHead from by rw[hw];decide)]
 conv=>whnf
 rw[show decide (w=(⟨#[102]⟩:ByteArray))=false from decide_eq_false (show ¬ w=kF from by rw[hw];decide)]
 conv=>whnf
 rw[show decide (w=(⟨#[112,111,108]⟩:ByteArray))=false from decide_eq_false (show ¬ w=kPol from by rw[hw];decide)]
 conv=>whnf
 rw[show decide (w=(⟨#[114,117,112]⟩:ByteArray))=false from decide_eq_false (show ¬ w=kRup from by rw[hw];decide)]
 conv=>whnf
 rw[show decide (w=(⟨#[101]⟩:ByteArray))=false from decide_eq_false (show ¬ w=kE from by rw[hw];decide)]
 conv=>whnf
 rw[show decide (w=(⟨#[115,111,108,105]⟩:ByteArray))=false from decide_eq_false (show ¬ w=kSoli from by rw[hw];decide)]
 conv=>whnf
 rw[show decide (w=(⟨#[115,111,108,120]⟩:ByteArray))=false from decide_eq_false (show ¬ w=kSolx from by rw[hw];decide)]
 conv=>whnf
 rw[show decide (w=(⟨#[100,101,108]⟩:ByteArray))=false from decide_eq_false (show ¬ w=kDel from by rw[hw];decide)]
 conv=>whnf
 rw[show decide (w=(⟨#[111,117,116,112,117,116]⟩:ByteArray))=true from decide_eq_true hw];conv=>whnf
 unfold tabR tabG at hR;rw[if_neg (show ¬ w=kHead from by rw[hw];decide),if_neg (show ¬ w=kF from by rw[hw];decide),if_neg (show ¬ w=kPol from by rw[hw];decide),if_neg (show ¬ w=kRup from by rw[hw];decide),if_neg (show ¬ w=kSoli from by rw[hw];decide),if_neg (show ¬ w=kSolx from by rw[hw];decide),if_neg (show ¬ w=kE from by rw[hw];decide),if_neg (show ¬ w=kDel from by rw[hw];decide),if_neg (show ¬ w=kStar from by rw[hw];decide),if_pos hw] at hR
 dsimp only at hR;refine⟨_,_,hE.sv,?_⟩;conv=>whnf
 have hE2:=hE.put [.int .i64 8,.str ByteArray.empty,.nils,.nils,.str ByteArray.empty,.nils,.nils,.int .i64 0,.str ByteArray.empty,.str ByteArray.empty]
 have hm:=one_ok (G:=G) hE2.rd noneS
 rw[one_wordsR,show[noneS]=outputWords from rfl,wordsR_exact] at hm;refine hm.mono ?_;rintro o T3 ⟨rfl,rfl⟩;have hE3:=hE2.rdr (exactG ws0 outputWords).1 (exactG ws0 outputWords).2;conv=>whnf
 refine hK _ _ ?_;clear hK hQ K;conv=>whnf
 refine⟨_,_,hE3.sv,?_⟩;conv=>whnf
 refine⟨_,_,hE3.rs,?_⟩;conv=>whnf
 refine⟨_,_,St.upd_same _ _ _,?_⟩;conv=>whnf
 refine⟨_,_,⟨{ zeroV with kind:=8 },_,_,rfl,rfl,exactG_suffix _ _,by rw[← hR];exact Agr.of rfl (fun _=>⟨rfl,rfl⟩)⟩,hE3.fin _,⟨rfl,rfl,rfl,rfl,rfl,rfl,rfl,rfl,rfl,rfl,rfl⟩⟩
theorem step_solx{S:St}{rb:Nat}{ws0:List ByteArray}(h:S rb=some (rdO ws0 0))(hw0:∀ w∈ws0,w.size≤9000000)(hn0:ws0.length≤9000000){w:ByteArray}(hw:w=kSolx) :
 Triple P (C G) 58 [.ref rb 0,.str w] S fun o S'=>∃ v' ws' e',o=.ret (stepAV v')∧S'=S.upd rb (rdO ws' e')∧ws' <:+ ws0∧Agr v' ws' e' (tabR w ws0):=by
 obtain⟨R,hR⟩:∃ R,tabR w ws0=R:=⟨_,rfl⟩;rw[hR];refine triple_of_awp (hT G) hm Tryz.func58 rfl (by decide +kernel) rfl (by decide +kernel) (by show 2≤_;decide +kernel) rfl ?_
 refine awp_seq2 fun K hK hQ=>?_
 conv=>whnf
 intro b2 hb2;conv=>whnf
 refine hK _ _ ?_;clear hK hQ K;refine awp_seq2 fun K hK hQ=>?_
 conv=>whnf
 intro b3 hb3;conv=>whnf
 refine hK _ _ ?_;clear hK hQ K;have hE:EndS S ((S.upd b2 (.obj 54 stepZ)).upd b3 (.obj 54 stepZ)) rb b2 b3 ws0 0 stepZ:=
  ⟨St.up hb3 (St.up hb2 h),St.upd_same _ _ _,St.up hb3 (St.upd_same _ _ _),fun x p _ h2=>St.up hb3 (St.up hb2 h2),(fun e=>by rw[e,h] at hb2;cases hb2),(fun e=>by rw[e,St.up hb2 h] at hb3;cases hb3),(fun e=>by rw[e,St.upd_same] at hb3;cases hb3),hb2,St.no hb3⟩
 change awp _ _ _ _ ((S.upd b2 (.obj 54 stepZ)).upd b3 (.obj 54 stepZ)) _;generalize (S.upd b2 (.obj 54 stepZ)).upd b3 (.obj 54 stepZ)=F at *;clear hb2 hb3;refine awp_seq2 fun K hK hQ=>?_
 conv=>whnf
 rw[show decide (w=(⟨#[112,115,101,117,100,111,45,66,111,111,108,101,97,110]⟩:ByteArray))=false from decide_eq_false (show ¬ w=kHead from by rw[hw];decide)]
 conv=>whnf
 rw[show decide (w=(⟨#[102]⟩:ByteArray))=false from decide_eq_false (show ¬ w=kF from by rw[hw];decide)]
 conv=>whnf
 rw[show decide (w=(⟨#[112,111,108]⟩:ByteArray))=false from decide_eq_false (show ¬ w=kPol from by rw[hw];decide)]
 conv=>whnf
 rw[show decide (w=(⟨#[114,117,112]⟩:ByteArray))=false from decide_eq_false (show ¬ w=kRup from by rw[hw];decide)]
 conv=>whnf
 rw[show decide (w=(⟨#[101]⟩:ByteArray))=false from decide_eq_false (show ¬ w=kE from by rw[hw];decide)]
 conv=>whnf
 rw[show decide (w=(⟨#[115,111,108,105]⟩:ByteArray))=false from decide_eq_false (show ¬ w=kSoli from by rw[hw];decide)]
 conv=>whnf
 rw[show decide (w=(⟨#[115,111,108,120]⟩:ByteArray))=true from decide_eq_true hw];conv=>whnf
 unfold tabR tabG at hR;rw[if_neg (show ¬ w=kHead from by rw[hw];decide),if_neg (show ¬ w=kF from by rw[hw];decide),if_neg (show ¬ w=kPol from by rw[hw];decide),if_neg (show ¬ w=kRup from by rw[hw];decide),if_neg (show ¬ w=kSoli from by rw[hw];decide),if_pos hw] at hR
 dsimp only at hR;refine⟨_,_,hE.sv,?_⟩;conv=>whnf
 have hE2:=hE.put [.int .i64 5,.str ByteArray.empty,.nils,.nils,.str ByteArray.empty,.nils,.nils,.int .i64 0,.str ByteArray.empty,.str ByteArray.empty]
 rw[show decide (w=(⟨#[115,111,108,120]⟩:ByteArray))=true from decide_eq_true hw];conv=>whnf
 refine⟨_,_,hE2.sv,?_⟩;conv=>whnf
 have hE3:=hE2.put [.int .i64 11,.str ByteArray.empty,.nils,.nils,.str ByteArray.empty,.nils,.nils,.int .i64 0,.str ByteArray.empty,.str ByteArray.empty]
 obtain⟨W,hW⟩:∃ W,litsG ws0 []=W:=⟨_,rfl⟩;generalize hBF:(F.upd b3 (.obj 54 [.int .i64 5,.str ByteArray.empty,.nils,.nils,.str ByteArray.empty,.nils,.nils,.int .i64 0,.str ByteArray.empty,.str ByteArray.empty])).upd b3 (.obj 54 [.int .i64 11,.str ByteArray.empty,.nils,.nils,.str ByteArray.empty,.nils,.nils,.int .i64 0,.str ByteArray.empty,.str ByteArray.empty])=B at hE3 ⊢;clear hBF;have n3:=hE3.n3;refine⟨⟨List ByteArray×Int×List Int×Nat,fun x=>[(0,.ref rb 0),(4,.ref b2 0),(5,.ref b3 0)],
  fun x S1=>AccOk ((B.upd rb (rdO x.1 x.2.1)).upd b3 (.obj 54 [.int .i64 11,.str ByteArray.empty,.nils,.nils,.str ByteArray.empty,.sl (.acc x.2.2.2) 1 (rowsI x.2.2.1),.nils,.int .i64 0,.str ByteArray.empty,.str ByteArray.empty])) S1 3 1 x.2.2.2 x.2.2.1.length∧x.2.2.1.length+x.1.length≤9000001∧x.1 <:+ ws0∧
   (x.2.1=0→litsG x.1 x.2.2.1=W)∧(x.2.1≠0→W.2.1=x.2.1),fun x=>x.1.length⟩,⟨(ws0,0,[],0),⟨rfl,rfl,rfl,trivial⟩,B.upd b3 (.obj 54 [.int .i64 11,.str ByteArray.empty,.nils,.nils,.str ByteArray.empty,.sl (.acc 0) 1 (rowsI []),.nils,.int .i64 0,.str ByteArray.empty,.str ByteArray.empty]),St.leW_upd hE3.sv ⟨rfl,rfl,rfl,rfl,rfl,rfl,rfl,rfl,rfl,rfl,trivial⟩,by rw[St.upd_id hE3.rd];exact AccOk.init _ _ _ _,by dsimp only;simp<;>omega,List.suffix_refl _,fun _=>hW,fun h=>absurd rfl h⟩,?_⟩
 rintro⟨ws,e,acc,ba⟩ S1 ⟨g1,g2,g3,g4,g5⟩;dsimp only at g1 g2 g3 g4 g5;have hB1:=((hE3.rdr ws e).put [.int .i64 11,.str ByteArray.empty,.nils,.nils,.str ByteArray.empty,.sl (.acc ba) 1 (rowsI acc),.nils,.int .i64 0,.str ByteArray.empty,.str ByteArray.empty]).le g1.le;have hsw:∀ w∈ws,w.size≤9000000:=fun w hw=>hw0 w (g3.mem hw)
 have hmo:=more_ok (G:=G) hB1.rd
 cases hm:moreR ws e with
 | false=>
   rw[hm] at hmo;obtain⟨r1,r2⟩:=LoopR.lits hm g4 g5;conv=>whnf
   refine hmo.mono ?_;rintro o T2 ⟨rfl,rfl⟩;conv=>whnf
   refine hK _ _ ?_;clear hK hQ K;conv=>whnf
   refine⟨_,_,hB1.sv,?_⟩;conv=>whnf
   refine⟨_,_,hB1.rs,?_⟩;conv=>whnf
   refine⟨_,_,St.upd_same _ _ _,?_⟩;conv=>whnf
   refine⟨_,_,⟨{ zeroV with kind:=11,lits:=acc },_,_,rfl,rfl,g3,by rw[← hR];unfold solG;rw[show zeroV.lits=[] from rfl,hW];exact Agr.of r1 (fun h=>by rw[← r1] at h;obtain⟨a,b⟩:=r2 h;exact⟨b,by rw[a]⟩)⟩,hB1.fin _,⟨rfl,rfl,rfl,rfl,rfl,⟨rfl,rfl⟩,rfl,rfl,rfl,rfl,rfl⟩⟩
 | true=>
   rw[hm] at hmo;obtain⟨rfl,hne⟩:e=0∧ws≠[]:=by simpa [moreR] using hm
   obtain⟨li,hli⟩:∃ o,litR ws 0=o:=⟨_,rfl⟩;obtain⟨k1,k2,k3⟩:=litsG_step hne acc hli;have u2:li.2.2 <:+ ws:=by rw[← hli];exact litR_suffix _ _
   have m2:=lit1_ok (G:=G) hB1.rd hsw
   rw[hli] at m2;have g1':=g1.over (x:=rb) (St.ov n3.symm (St.upd_same _ _ _)) (rdO li.2.2 li.2.1);rw[St.upd_comm n3,St.upd_upd] at g1';conv=>whnf
   refine hmo.mono ?_;rintro o T2 ⟨rfl,rfl⟩;refine⟨[],(.free 0 (.free 2 (.one 1 (.one 3 (.one 4 (.one 5 (.free 6 (.one 7 .done .none)) .none) .none) .none) (.one 3 (.free 1 (.one 4 (.one 5 (.free 6 (.one 7 .done .none)) .none) .none)) .none)))),_,by decide +kernel,?_,fun _ _ h=>⟨_,.inl rfl,h⟩⟩
   conv=>whnf
   refine⟨?_,?_⟩
   ·refine⟨_,_,hB1.sv,?_⟩;conv=>whnf
    refine m2.mono ?_;rintro o T4 ⟨rfl,rfl⟩;conv=>whnf
    intro bb hbb;have hTb:=g1'.other hbb (.tip 3 1 1);conv=>whnf
    refine⟨⟨fun hl=>?_,?_⟩,fun S4 c1 c2 b' c3=>?_⟩
    ·have:0<acc.length:=by cases acc with
      | nil=>exact absurd rfl hl
      | cons _ _=>simp
     rw[rowsI_len];exact hTb.tip this
    ·show((rowsI acc).length+1)*8≤_
     rw[rowsI_len];omega
    have h5:=hTb.push (m:=acc.length+1) (by rw[rowsI_len]) c1 c2 c3 rfl
    rw[rowsI_len];conv=>whnf
    rw[rowsI_snoc acc li.1];refine⟨_,_,h5.le _ _ (St.upd_same _ _ _),?_⟩;conv=>whnf
    have h6:=h5.over (x:=b3) (St.upd_same _ _ _) (.obj 54 [.int .i64 11,.str ByteArray.empty,.nils,.nils,.str ByteArray.empty,.sl (.acc b') 1 (rowsI (acc++[li.1])),.nils,.int .i64 0,.str ByteArray.empty,.str ByteArray.empty])
    rw[St.upd_upd] at h6;exact⟨(li.2.2,li.2.1,acc++[li.1],b'),⟨rfl,rfl,rfl,trivial⟩,⟨_,St.leW_refl _,by dsimp only;rw[List.length_append];exact h6,by simp<;>omega,u2.trans g3,fun h=>by rw[← g4 rfl];exact(k1 h).symm,fun h=>by rw[← g4 rfl];exact k2 h⟩,k3⟩
   ·refine m2.mono ?_;rintro o T4 ⟨rfl,rfl⟩;conv=>whnf
    refine⟨_,_,St.ov n3 hB1.sv,?_⟩;conv=>whnf
    intro bb hbb;have hTb:=g1'.other hbb (.tip 3 1 1);conv=>whnf
    refine⟨⟨fun hl=>?_,?_⟩,fun S4 c1 c2 b' c3=>?_⟩
    ·have:0<acc.length:=by cases acc with
      | nil=>exact absurd rfl hl
      | cons _ _=>simp
     rw[rowsI_len];exact hTb.tip this
    ·show((rowsI acc).length+1)*8≤_
     rw[rowsI_len];omega
    have h5:=hTb.push (m:=acc.length+1) (by rw[rowsI_len]) c1 c2 c3 rfl
    rw[rowsI_len];conv=>whnf
    rw[rowsI_snoc acc li.1];refine⟨_,_,h5.le _ _ (St.upd_same _ _ _),?_⟩;conv=>whnf
    have h6:=h5.over (x:=b3) (St.upd_same _ _ _) (.obj 54 [.int .i64 11,.str ByteArray.empty,.nils,.nils,.str ByteArray.empty,.sl (.acc b') 1 (rowsI (acc++[li.1])),.nils,.int .i64 0,.str ByteArray.empty,.str ByteArray.empty])
    rw[St.upd_upd] at h6;exact⟨(li.2.2,li.2.1,acc++[li.1],b'),⟨rfl,rfl,rfl,trivial⟩,⟨_,St.leW_refl _,by dsimp only;rw[List.length_append];exact h6,by simp<;>omega,u2.trans g3,fun h=>by rw[← g4 rfl];exact(k1 h).symm,fun h=>by rw[← g4 rfl];exact k2 h⟩,k3⟩
theorem step_soli{S:St}{rb:Nat}{ws0:List ByteArray}(h:S rb=some (rdO ws0 0))(hw0:∀ w∈ws0,w.size≤9000000)(hn0:ws0.length≤9000000){w:ByteArray}(hw:w=kSoli) :
 Triple P (C G) 58 [.ref rb 0,.str w] S fun o S'=>∃ v' ws' e',o=.ret (stepAV v')∧S'=S.upd rb (rdO ws' e')∧ws' <:+ ws0∧Agr v' ws' e' (tabR w ws0):=by
 obtain⟨R,hR⟩:∃ R,tabR w ws0=R:=⟨_,rfl⟩;rw[hR];refine triple_of_awp (hT G) hm Tryz.func58 rfl (by decide +kernel) rfl (by decide +kernel) (by show 2≤_;decide +kernel) rfl ?_
 refine awp_seq2 fun K hK hQ=>?_
 conv=>whnf
 intro b2 hb2;conv=>whnf
 refine hK _ _ ?_;clear hK hQ K;refine awp_seq2 fun K hK hQ=>?_
 conv=>whnf
 intro b3 hb3;conv=>whnf
 refine hK _ _ ?_;clear hK hQ K;have hE:EndS S ((S.upd b2 (.obj 54 stepZ)).upd b3 (.obj 54 stepZ)) rb b2 b3 ws0 0 stepZ:=
  ⟨St.up hb3 (St.up hb2 h),St.upd_same _ _ _,St.up hb3 (St.upd_same _ _ _),fun x p _ h2=>St.up hb3 (St.up hb2 h2),(fun e=>by rw[e,h] at hb2;cases hb2),(fun e=>by rw[e,St.up hb2 h] at hb3;cases hb3),(fun e=>by rw[e,St.upd_same] at hb3;cases hb3),hb2,St.no hb3⟩
 change awp _ _ _ _ ((S.upd b2 (.obj 54 stepZ)).upd b3 (.obj 54 stepZ)) _;generalize (S.upd b2 (.obj 54 stepZ)).upd b3 (.obj 54 stepZ)=F at *;clear hb2 hb3;refine awp_seq2 fun K hK hQ=>?_
 conv=>whnf
 rw[show decide (w=(⟨#[112,115,101,117,100,111,45,66,111,111,108,101,97,110]⟩:ByteArray))=false from decide_eq_false (show ¬ w=kHead from by rw[hw];decide)]
 conv=>whnf
 rw[show decide (w=(⟨#[102]⟩:ByteArray))=false from decide_eq_false (show ¬ w=kF from by rw[hw];decide)]
 conv=>whnf
 rw[show decide (w=(⟨#[112,111,108]⟩:ByteArray))=false from decide_eq_false (show ¬ w=kPol from by rw[hw];decide)]
 conv=>whnf
 rw[show decide (w=(⟨#[114,117,112]⟩:ByteArray))=false from decide_eq_false (show ¬ w=kRup from by rw[hw];decide)]
 conv=>whnf
 rw[show decide (w=(⟨#[101]⟩:ByteArray))=false from decide_eq_false (show ¬ w=kE from by rw[hw];decide)]
 conv=>whnf
 rw[show decide (w=(⟨#[115,111,108,105]⟩:ByteArray))=true from decide_eq_true hw];conv=>whnf
 unfold tabR tabG at hR;rw[if_neg (show ¬ w=kHead from by rw[hw];decide),if_neg (show ¬ w=kF from by rw[hw];decide),if_neg (show ¬ w=kPol from by rw[hw];decide),if_neg (show ¬ w=kRup from by rw[hw];decide),if_pos hw] at hR
 dsimp only at hR;refine⟨_,_,hE.sv,?_⟩;conv=>whnf
 have hE2:=hE.put [.int .i64 5,.str ByteArray.empty,.nils,.nils,.str ByteArray.empty,.nils,.nils,.int .i64 0,.str ByteArray.empty,.str ByteArray.empty]
 rw[show decide (w=(⟨#[115,111,108,120]⟩:ByteArray))=false from decide_eq_false (show ¬ w=kSolx from by rw[hw];decide)]
 conv=>whnf
 obtain⟨W,hW⟩:∃ W,litsG ws0 []=W:=⟨_,rfl⟩;generalize hBF:F.upd b3 (.obj 54 [.int .i64 5,.str ByteArray.empty,.nils,.nils,.str ByteArray.empty,.nils,.nils,.int .i64 0,.str ByteArray.empty,.str ByteArray.empty])=B at hE2 ⊢;clear hBF;have n3:=hE2.n3;refine⟨⟨List ByteArray×Int×List Int×Nat,fun x=>[(0,.ref rb 0),(4,.ref b2 0),(5,.ref b3 0)],
  fun x S1=>AccOk ((B.upd rb (rdO x.1 x.2.1)).upd b3 (.obj 54 [.int .i64 5,.str ByteArray.empty,.nils,.nils,.str ByteArray.empty,.sl (.acc x.2.2.2) 1 (rowsI x.2.2.1),.nils,.int .i64 0,.str ByteArray.empty,.str ByteArray.empty])) S1 3 1 x.2.2.2 x.2.2.1.length∧x.2.2.1.length+x.1.length≤9000001∧x.1 <:+ ws0∧
   (x.2.1=0→litsG x.1 x.2.2.1=W)∧(x.2.1≠0→W.2.1=x.2.1),fun x=>x.1.length⟩,⟨(ws0,0,[],0),⟨rfl,rfl,rfl,trivial⟩,B.upd b3 (.obj 54 [.int .i64 5,.str ByteArray.empty,.nils,.nils,.str ByteArray.empty,.sl (.acc 0) 1 (rowsI []),.nils,.int .i64 0,.str ByteArray.empty,.str ByteArray.empty]),St.leW_upd hE2.sv ⟨rfl,rfl,rfl,rfl,rfl,rfl,rfl,rfl,rfl,rfl,trivial⟩,by rw[St.upd_id hE2.rd];exact AccOk.init _ _ _ _,by dsimp only;simp<;>omega,List.suffix_refl _,fun _=>hW,fun h=>absurd rfl h⟩,?_⟩
 rintro⟨ws,e,acc,ba⟩ S1 ⟨g1,g2,g3,g4,g5⟩;dsimp only at g1 g2 g3 g4 g5;have hB1:=((hE2.rdr ws e).put [.int .i64 5,.str ByteArray.empty,.nils,.nils,.str ByteArray.empty,.sl (.acc ba) 1 (rowsI acc),.nils,.int .i64 0,.str ByteArray.empty,.str ByteArray.empty]).le g1.le;have hsw:∀ w∈ws,w.size≤9000000:=fun w hw=>hw0 w (g3.mem hw)
 have hmo:=more_ok (G:=G) hB1.rd
 cases hm:moreR ws e with
 | false=>
   rw[hm] at hmo;obtain⟨r1,r2⟩:=LoopR.lits hm g4 g5;conv=>whnf
   refine hmo.mono ?_;rintro o T2 ⟨rfl,rfl⟩;conv=>whnf
   refine hK _ _ ?_;clear hK hQ K;conv=>whnf
   refine⟨_,_,hB1.sv,?_⟩;conv=>whnf
   refine⟨_,_,hB1.rs,?_⟩;conv=>whnf
   refine⟨_,_,St.upd_same _ _ _,?_⟩;conv=>whnf
   refine⟨_,_,⟨{ zeroV with kind:=5,lits:=acc },_,_,rfl,rfl,g3,by rw[← hR];unfold solG;rw[show zeroV.lits=[] from rfl,hW];exact Agr.of r1 (fun h=>by rw[← r1] at h;obtain⟨a,b⟩:=r2 h;exact⟨b,by rw[a]⟩)⟩,hB1.fin _,⟨rfl,rfl,rfl,rfl,rfl,⟨rfl,rfl⟩,rfl,rfl,rfl,rfl,rfl⟩⟩
 | true=>
   rw[hm] at hmo;obtain⟨rfl,hne⟩:e=0∧ws≠[]:=by simpa [moreR] using hm
   obtain⟨li,hli⟩:∃ o,litR ws 0=o:=⟨_,rfl⟩;obtain⟨k1,k2,k3⟩:=litsG_step hne acc hli;have u2:li.2.2 <:+ ws:=by rw[← hli];exact litR_suffix _ _
   have m2:=lit1_ok (G:=G) hB1.rd hsw
   rw[hli] at m2;have g1':=g1.over (x:=rb) (St.ov n3.symm (St.upd_same _ _ _)) (rdO li.2.2 li.2.1);rw[St.upd_comm n3,St.upd_upd] at g1';conv=>whnf
   refine hmo.mono ?_;rintro o T2 ⟨rfl,rfl⟩;refine⟨[],(.free 0 (.free 2 (.one 1 (.one 3 (.one 4 (.one 5 (.free 6 (.one 7 .done .none)) .none) .none) .none) (.one 3 (.free 1 (.one 4 (.one 5 (.free 6 (.one 7 .done .none)) .none) .none)) .none)))),_,by decide +kernel,?_,fun _ _ h=>⟨_,.inl rfl,h⟩⟩
   conv=>whnf
   refine⟨?_,?_⟩
   ·refine⟨_,_,hB1.sv,?_⟩;conv=>whnf
    refine m2.mono ?_;rintro o T4 ⟨rfl,rfl⟩;conv=>whnf
    intro bb hbb;have hTb:=g1'.other hbb (.tip 3 1 1);conv=>whnf
    refine⟨⟨fun hl=>?_,?_⟩,fun S4 c1 c2 b' c3=>?_⟩
    ·have:0<acc.length:=by cases acc with
      | nil=>exact absurd rfl hl
      | cons _ _=>simp
     rw[rowsI_len];exact hTb.tip this
    ·show((rowsI acc).length+1)*8≤_
     rw[rowsI_len];omega
    have h5:=hTb.push (m:=acc.length+1) (by rw[rowsI_len]) c1 c2 c3 rfl
    rw[rowsI_len];conv=>whnf
    rw[rowsI_snoc acc li.1];refine⟨_,_,h5.le _ _ (St.upd_same _ _ _),?_⟩;conv=>whnf
    have h6:=h5.over (x:=b3) (St.upd_same _ _ _) (.obj 54 [.int .i64 5,.str ByteArray.empty,.nils,.nils,.str ByteArray.empty,.sl (.acc b') 1 (rowsI (acc++[li.1])),.nils,.int .i64 0,.str ByteArray.empty,.str ByteArray.empty])
    rw[St.upd_upd] at h6;exact⟨(li.2.2,li.2.1,acc++[li.1],b'),⟨rfl,rfl,rfl,trivial⟩,⟨_,St.leW_refl _,by dsimp only;rw[List.length_append];exact h6,by simp<;>omega,u2.trans g3,fun h=>by rw[← g4 rfl];exact(k1 h).symm,fun h=>by rw[← g4 rfl];exact k2 h⟩,k3⟩
   ·refine m2.mono ?_;rintro o T4 ⟨rfl,rfl⟩;conv=>whnf
    refine⟨_,_,St.ov n3 hB1.sv,?_⟩;conv=>whnf
    intro bb hbb;have hTb:=g1'.other hbb (.tip 3 1 1);conv=>whnf
    refine⟨⟨fun hl=>?_,?_⟩,fun S4 c1 c2 b' c3=>?_⟩
    ·have:0<acc.length:=by cases acc with
      | nil=>exact absurd rfl hl
      | cons _ _=>simp
     rw[rowsI_len];exact hTb.tip this
    ·show((rowsI acc).length+1)*8≤_
     rw[rowsI_len];omega
    have h5:=hTb.push (m:=acc.length+1) (by rw[rowsI_len]) c1 c2 c3 rfl
    rw[rowsI_len];conv=>whnf
    rw[rowsI_snoc acc li.1];refine⟨_,_,h5.le _ _ (St.upd_same _ _ _),?_⟩;conv=>whnf
    have h6:=h5.over (x:=b3) (St.upd_same _ _ _) (.obj 54 [.int .i64 5,.str ByteArray.empty,.nils,.nils,.str ByteArray.empty,.sl (.acc b') 1 (rowsI (acc++[li.1])),.nils,.int .i64 0,.str ByteArray.empty,.str ByteArray.empty])
    rw[St.upd_upd] at h6;exact⟨(li.2.2,li.2.1,acc++[li.1],b'),⟨rfl,rfl,rfl,trivial⟩,⟨_,St.leW_refl _,by dsimp only;rw[List.length_append];exact h6,by simp<;>omega,u2.trans g3,fun h=>by rw[← g4 rfl];exact(k1 h).symm,fun h=>by rw[← g4 rfl];exact k2 h⟩,k3⟩
theorem step_rup{S:St}{rb:Nat}{ws0:List ByteArray}(h:S rb=some (rdO ws0 0))(hw0:∀ w∈ws0,w.size≤9000000)(hn0:ws0.length≤9000000){w:ByteArray}(hw:w=kRup) :
 Triple P (C G) 58 [.ref rb 0,.str w] S fun o S'=>∃ v' ws' e',o=.ret (stepAV v')∧S'=S.upd rb (rdO ws' e')∧ws' <:+ ws0∧Agr v' ws' e' (tabR w ws0):=by
 obtain⟨R,hR⟩:∃ R,tabR w ws0=R:=⟨_,rfl⟩;rw[hR];refine triple_of_awp (hT G) hm Tryz.func58 rfl (by decide +kernel) rfl (by decide +kernel) (by show 2≤_;decide +kernel) rfl ?_
 refine awp_seq2 fun K hK hQ=>?_
 conv=>whnf
 intro b2 hb2;conv=>whnf
 refine hK _ _ ?_;clear hK hQ K;refine awp_seq2 fun K hK hQ=>?_
 conv=>whnf
 intro b3 hb3;conv=>whnf
 refine hK _ _ ?_;clear hK hQ K;have hE:EndS S ((S.upd b2 (.obj 54 stepZ)).upd b3 (.obj 54 stepZ)) rb b2 b3 ws0 0 stepZ:=
  ⟨St.up hb3 (St.up hb2 h),St.upd_same _ _ _,St.up hb3 (St.upd_same _ _ _),fun x p _ h2=>St.up hb3 (St.up hb2 h2),(fun e=>by rw[e,h] at hb2;cases hb2),(fun e=>by rw[e,St.up hb2 h] at hb3;cases hb3),(fun e=>by rw[e,St.upd_same] at hb3;cases hb3),hb2,St.no hb3⟩
 change awp _ _ _ _ ((S.upd b2 (.obj 54 stepZ)).upd b3 (.obj 54 stepZ)) _;generalize (S.upd b2 (.obj 54 stepZ)).upd b3 (.obj 54 stepZ)=F at *;clear hb2 hb3;refine awp_seq2 fun K hK hQ=>?_
 conv=>whnf
 rw[show decide (w=(⟨#[112,115,101,117,100,111,45,66,111,111,108,101,97,110]⟩:ByteArray))=false from decide_eq_false (show ¬ w=kHead from by rw[hw];decide)]
 conv=>whnf
 rw[show decide (w=(⟨#[102]⟩:ByteArray))=false from decide_eq_false (show ¬ w=kF from by rw[hw];decide)]
 conv=>whnf
 rw[show decide (w=(⟨#[112,111,108]⟩:ByteArray))=false from decide_eq_false (show ¬ w=kPol from by rw[hw];decide)]
 conv=>whnf
 rw[show decide (w=(⟨#[114,117,112]⟩:ByteArray))=true from decide_eq_true hw];conv=>whnf
 unfold tabR tabG at hR;rw[if_neg (show ¬ w=kHead from by rw[hw];decide),if_neg (show ¬ w=kF from by rw[hw];decide),if_neg (show ¬ w=kPol from by rw[hw];decide),if_pos hw] at hR
 dsimp only at hR;refine⟨_,_,hE.sv,?_⟩;conv=>whnf
 have hE2:=hE.put [.int .i64 4,.str ByteArray.empty,.nils,.nils,.str ByteArray.empty,.nils,.nils,.int .i64 0,.str ByteArray.empty,.str ByteArray.empty]
 refine(row_ok1 (G:=G) hE2.rd hw0 hn0 { zeroV with kind:=4 } rfl).mono ?_;rintro o T3 ⟨ps,b,ws1,rfl,rfl,sf1,hrow⟩;obtain⟨RW,hRW⟩:∃ r,rowG ws0 { zeroV with kind:=4 }=r:=⟨_,rfl⟩;have hR2:R=if RW.1=0 then withIds (idsG RW.2.1 RW.2.2.ids) RW.2.2 else RW:=by rw[← hR,← hRW];rfl
 clear hR;rw[hRW] at hrow ⊢;have hE3:=hE2.rdr ws1 RW.1;conv=>whnf
 refine⟨_,_,hE3.sv,?_⟩;conv=>whnf
 have hE4:=hE3.put [.int .i64 4,.str ByteArray.empty,.nils,.sl .any 2 (rowsP ps),.str b,.nils,.nils,.int .i64 0,.str ByteArray.empty,.str ByteArray.empty]
 obtain⟨W,hW1,hW2⟩:∃ W:List ByteArray×Int×List ByteArray,(RW.1=0→idsG ws1 []=W)∧(RW.1≠0→W.2.1=RW.1):=by
  by_cases he:RW.1=0
  ·exact⟨_,fun _=>rfl,fun h=>absurd he h⟩
  ·exact⟨([],RW.1,ws1),fun h=>absurd h he,fun _=>rfl⟩
 have hl1:=sf1.length_le
 generalize hBF:((F.upd b3 (.obj 54 [.int .i64 4,.str ByteArray.empty,.nils,.nils,.str ByteArray.empty,.nils,.nils,.int .i64 0,.str ByteArray.empty,.str ByteArray.empty])).upd rb (rdO ws1 RW.1)).upd b3 (.obj 54 [.int .i64 4,.str ByteArray.empty,.nils,.sl .any 2 (rowsP ps),.str b,.nils,.nils,.int .i64 0,.str ByteArray.empty,.str ByteArray.empty])=B at hE4 ⊢;clear hBF;have n3:=hE4.n3;refine⟨⟨List ByteArray×Int×List ByteArray×Nat,fun x=>[(0,.ref rb 0),(4,.ref b2 0),(5,.ref b3 0)],
  fun x S1=>AccOk ((B.upd rb (rdO x.1 x.2.1)).upd b3 (.obj 54 [.int .i64 4,.str ByteArray.empty,.nils,.sl .any 2 (rowsP ps),.str b,.nils,.sl (.acc x.2.2.2) 1 (rowsS x.2.2.1),.int .i64 0,.str ByteArray.empty,.str ByteArray.empty])) S1 9 1 x.2.2.2 x.2.2.1.length∧x.2.2.1.length+x.1.length≤9000001∧x.1 <:+ ws0∧
   (x.2.1=0→idsG x.1 x.2.2.1=W)∧(x.2.1≠0→W.2.1=x.2.1),fun x=>x.1.length⟩,⟨(ws1,RW.1,[],0),⟨rfl,rfl,rfl,trivial⟩,B.upd b3 (.obj 54 [.int .i64 4,.str ByteArray.empty,.nils,.sl .any 2 (rowsP ps),.str b,.nils,.sl (.acc 0) 1 (rowsS []),.int .i64 0,.str ByteArray.empty,.str ByteArray.empty]),St.leW_upd hE4.sv ⟨rfl,rfl,rfl,⟨rfl,rfl⟩,rfl,rfl,rfl,rfl,rfl,rfl,trivial⟩,by rw[St.upd_id hE4.rd];exact AccOk.init _ _ _ _,by dsimp only;simp<;>omega,sf1,hW1,hW2⟩,?_⟩
 rintro⟨ws,e,acc,ba⟩ S1 ⟨g1,g2,g3,g4,g5⟩;dsimp only at g1 g2 g3 g4 g5;have hB1:=((hE4.rdr ws e).put [.int .i64 4,.str ByteArray.empty,.nils,.sl .any 2 (rowsP ps),.str b,.nils,.sl (.acc ba) 1 (rowsS acc),.int .i64 0,.str ByteArray.empty,.str ByteArray.empty]).le g1.le;have hsw:∀ w∈ws,w.size≤9000000:=fun w hw=>hw0 w (g3.mem hw)
 have hmo:=more_ok (G:=G) hB1.rd
 cases hm:moreR ws e with
 | false=>
   rw[hm] at hmo;obtain⟨r1,r2⟩:=LoopR.ids hm g4 g5;conv=>whnf
   refine hmo.mono ?_;rintro o T2 ⟨rfl,rfl⟩;conv=>whnf
   refine hK _ _ ?_;clear hK hQ K;conv=>whnf
   refine⟨_,_,hB1.sv,?_⟩;conv=>whnf
   refine⟨_,_,hB1.rs,?_⟩;conv=>whnf
   refine⟨_,_,St.upd_same _ _ _,?_⟩;conv=>whnf
   refine⟨_,_,⟨{ zeroV with kind:=4,pieces:=ps,bound:=b,ids:=acc },_,_,rfl,rfl,g3,by
    rw[hR2]
    by_cases he:RW.1=0
    ·obtain⟨a1,a2⟩:=hrow he;rw[if_pos he,← a1,show RW.2.2.ids=[] from by rw[a2];rfl,hW1 he,a2]
     exact Agr.of r1 (fun h=>by
      rw[show(withIds W { zeroV with kind:=4,pieces:=ps,bound:=b }).1=W.2.1 from rfl,← r1] at h;obtain⟨a,b⟩:=r2 h;exact⟨b,by rw[a];rfl⟩)
    ·rw[if_neg he];exact Agr.of (by rw[r1];exact hW2 he) (fun h=>absurd h he)⟩,hB1.fin _,⟨rfl,rfl,rfl,⟨rfl,rfl⟩,rfl,rfl,⟨rfl,rfl⟩,rfl,rfl,rfl,rfl⟩⟩
 | true=>
   rw[hm] at hmo;obtain⟨rfl,hne⟩:e=0∧ws≠[]:=by simpa [moreR] using hm
   obtain⟨li,hli⟩:∃ o,numR 1 ws 0=o:=⟨_,rfl⟩;obtain⟨k1,k2,k3⟩:=idsG_step hne acc hli;have u2:li.2.2 <:+ ws:=by rw[← hli];exact numR_suffix _ _ _
   have m2:=number1_ok (G:=G) hB1.rd hsw 1 (by omega) (by omega)
   rw[hli] at m2;have g1':=g1.over (x:=rb) (St.ov n3.symm (St.upd_same _ _ _)) (rdO li.2.2 li.2.1);rw[St.upd_comm n3,St.upd_upd] at g1';conv=>whnf
   refine hmo.mono ?_;rintro o T2 ⟨rfl,rfl⟩;refine⟨[],(.free 0 (.free 2 (.one 1 (.one 3 (.one 4 (.one 5 (.free 6 (.one 7 .done .none)) .none) .none) .none) (.one 3 (.free 1 (.one 4 (.one 5 (.free 6 (.one 7 .done .none)) .none) .none)) .none)))),_,by decide +kernel,?_,fun _ _ h=>⟨_,.inl rfl,h⟩⟩
   conv=>whnf
   refine⟨?_,?_⟩
   ·refine⟨_,_,hB1.sv,?_⟩;conv=>whnf
    refine m2.mono ?_;rintro o T4 ⟨rfl,rfl⟩;conv=>whnf
    intro bb hbb;have hTb:=g1'.other hbb (.tip 9 1 1);conv=>whnf
    refine⟨⟨fun hl=>?_,?_⟩,fun S4 c1 c2 b' c3=>?_⟩
    ·have:0<acc.length:=by cases acc with
      | nil=>exact absurd rfl hl
      | cons _ _=>simp
     rw[rowsS_len];exact hTb.tip this
    ·show((rowsS acc).length+1)*16≤_
     rw[rowsS_len];omega
    have h5:=hTb.push (m:=acc.length+1) (by rw[rowsS_len]) c1 c2 c3 rfl
    rw[rowsS_len];conv=>whnf
    rw[rowsS_snoc acc li.1];refine⟨_,_,h5.le _ _ (St.upd_same _ _ _),?_⟩;conv=>whnf
    have h6:=h5.over (x:=b3) (St.upd_same _ _ _) (.obj 54 [.int .i64 4,.str ByteArray.empty,.nils,.sl .any 2 (rowsP ps),.str b,.nils,.sl (.acc b') 1 (rowsS (acc++[li.1])),.int .i64 0,.str ByteArray.empty,.str ByteArray.empty])
    rw[St.upd_upd] at h6;exact⟨(li.2.2,li.2.1,acc++[li.1],b'),⟨rfl,rfl,rfl,trivial⟩,⟨_,St.leW_refl _,by dsimp only;rw[List.length_append];exact h6,by simp<;>omega,u2.trans g3,fun h=>by rw[← g4 rfl];exact(k1 h).symm,fun h=>by rw[← g4 rfl];exact k2 h⟩,k3⟩
   ·refine m2.mono ?_;rintro o T4 ⟨rfl,rfl⟩;conv=>whnf
    refine⟨_,_,St.ov n3 hB1.sv,?_⟩;conv=>whnf
    intro bb hbb;have hTb:=g1'.other hbb (.tip 9 1 1);conv=>whnf
    refine⟨⟨fun hl=>?_,?_⟩,fun S4 c1 c2 b' c3=>?_⟩
    ·have:0<acc.length:=by cases acc with
      | nil=>exact absurd rfl hl
      | cons _ _=>simp
     rw[rowsS_len];exact hTb.tip this
    ·show((rowsS acc).length+1)*16≤_
     rw[rowsS_len];omega
    have h5:=hTb.push (m:=acc.length+1) (by rw[rowsS_len]) c1 c2 c3 rfl
    rw[rowsS_len];conv=>whnf
    rw[rowsS_snoc acc li.1];refine⟨_,_,h5.le _ _ (St.upd_same _ _ _),?_⟩;conv=>whnf
    have h6:=h5.over (x:=b3) (St.upd_same _ _ _) (.obj 54 [.int .i64 4,.str ByteArray.empty,.nils,.sl .any 2 (rowsP ps),.str b,.nils,.sl (.acc b') 1 (rowsS (acc++[li.1])),.int .i64 0,.str ByteArray.empty,.str ByteArray.empty])
    rw[St.upd_upd] at h6;exact⟨(li.2.2,li.2.1,acc++[li.1],b'),⟨rfl,rfl,rfl,trivial⟩,⟨_,St.leW_refl _,by dsimp only;rw[List.length_append];exact h6,by simp<;>omega,u2.trans g3,fun h=>by rw[← g4 rfl];exact(k1 h).symm,fun h=>by rw[← g4 rfl];exact k2 h⟩,k3⟩
theorem step_same{S:St}{rb:Nat}{ws0:List ByteArray}(h:S rb=some (rdO ws0 0))(hw0:∀ w∈ws0,w.size≤9000000)(hn0:ws0.length≤9000000){w:ByteArray}(hw:w=kE) :
 Triple P (C G) 58 [.ref rb 0,.str w] S fun o S'=>∃ v' ws' e',o=.ret (stepAV v')∧S'=S.upd rb (rdO ws' e')∧ws' <:+ ws0∧Agr v' ws' e' (tabR w ws0):=by
 obtain⟨R,hR⟩:∃ R,tabR w ws0=R:=⟨_,rfl⟩;rw[hR];refine triple_of_awp (hT G) hm Tryz.func58 rfl (by decide +kernel) rfl (by decide +kernel) (by show 2≤_;decide +kernel) rfl ?_
 refine awp_seq2 fun K hK hQ=>?_
 conv=>whnf
 intro b2 hb2;conv=>whnf
 refine hK _ _ ?_;clear hK hQ K;refine awp_seq2 fun K hK hQ=>?_
 conv=>whnf
 intro b3 hb3;conv=>whnf
 refine hK _ _ ?_;clear hK hQ K;have hE:EndS S ((S.upd b2 (.obj 54 stepZ)).upd b3 (.obj 54 stepZ)) rb b2 b3 ws0 0 stepZ:=
  ⟨St.up hb3 (St.up hb2 h),St.upd_same _ _ _,St.up hb3 (St.upd_same _ _ _),fun x p _ h2=>St.up hb3 (St.up hb2 h2),(fun e=>by rw[e,h] at hb2;cases hb2),(fun e=>by rw[e,St.up hb2 h] at hb3;cases hb3),(fun e=>by rw[e,St.upd_same] at hb3;cases hb3),hb2,St.no hb3⟩
 change awp _ _ _ _ ((S.upd b2 (.obj 54 stepZ)).upd b3 (.obj 54 stepZ)) _;generalize (S.upd b2 (.obj 54 stepZ)).upd b3 (.obj 54 stepZ)=F at *;clear hb2 hb3;refine awp_seq2 fun K hK hQ=>?_
 conv=>whnf
 rw[show decide (w=(⟨#[112,115,101,117,100,111,45,66,111,111,108,101,97,110]⟩:ByteArray))=false from decide_eq_false (show ¬ w=kHead from by rw[hw];decide)]
 conv=>whnf
 rw[show decide (w=(⟨#[102]⟩:ByteArray))=false from decide_eq_false (show ¬ w=kF from by rw[hw];decide)]
 conv=>whnf
 rw[show decide (w=(⟨#[112,111,108]⟩:ByteArray))=false from decide_eq_false (show ¬ w=kPol from by rw[hw];decide)]
 conv=>whnf
 rw[show decide (w=(⟨#[114,117,112]⟩:ByteArray))=false from decide_eq_false (show ¬ w=kRup from by rw[hw];decide)]
 conv=>whnf
 rw[show decide (w=(⟨#[101]⟩:ByteArray))=true from decide_eq_true hw];conv=>whnf
 unfold tabR tabG at hR;rw[if_neg (show ¬ w=kHead from by rw[hw];decide),if_neg (show ¬ w=kF from by rw[hw];decide),if_neg (show ¬ w=kPol from by rw[hw];decide),if_neg (show ¬ w=kRup from by rw[hw];decide),if_neg (show ¬ w=kSoli from by rw[hw];decide),if_neg (show ¬ w=kSolx from by rw[hw];decide),if_pos hw] at hR
 dsimp only at hR;refine⟨_,_,hE.sv,?_⟩;conv=>whnf
 have hE2:=hE.put [.int .i64 12,.str ByteArray.empty,.nils,.nils,.str ByteArray.empty,.nils,.nils,.int .i64 0,.str ByteArray.empty,.str ByteArray.empty]
 obtain⟨n,hn⟩:∃ o,numR 1 ws0 0=o:=⟨_,rfl⟩;have u1:n.2.2 <:+ ws0:=by rw[← hn];exact numR_suffix _ _ _
 have hm:=number1_ok (G:=G) hE2.rd hw0 1 (by omega) (by omega)
 rw[hn] at hm;have hR2:R=if n.2.1=0 then rowG n.2.2 { zeroV with kind:=12,ids:=[n.1] } else (n.2.1,n.2.2,{ zeroV with kind:=12 }):=by rw[← hR,← hn];rfl
 clear hR;refine hm.mono ?_;rintro o T3 ⟨rfl,rfl⟩;have hE3:=hE2.rdr n.2.2 n.2.1;conv=>whnf
 intro bb hbb;have hE4:=hE3.more hbb (.tip 9 1 1);conv=>whnf
 refine⟨_,_,hE4.sv,?_⟩;conv=>whnf
 have hE5:=hE4.put [.int .i64 12,.str ByteArray.empty,.nils,.nils,.str ByteArray.empty,.nils,.sl (.own bb) 1 [[.str n.1]],.int .i64 0,.str ByteArray.empty,.str ByteArray.empty]
 by_cases he:n.2.1=0
 ·rw[if_pos he] at hR2;rw[he] at hE5 ⊢;refine(row_ok1 (G:=G) hE5.rd (fun w hw=>hw0 w (u1.mem hw)) (Nat.le_trans u1.length_le hn0) { zeroV with kind:=12,ids:=[n.1] } rfl).mono ?_
  rintro o T3 ⟨ps,b,ws1,rfl,rfl,sf1,hrow⟩;rw[← hR2] at hrow ⊢;have hE6:=hE5.rdr ws1 R.1;conv=>whnf
  refine⟨_,_,hE6.sv,?_⟩;conv=>whnf
  have hE7:=hE6.put [.int .i64 12,.str ByteArray.empty,.nils,.sl .any 2 (rowsP ps),.str b,.nils,.sl (.own bb) 1 [[.str n.1]],.int .i64 0,.str ByteArray.empty,.str ByteArray.empty]
  refine hK _ _ ?_;clear hK hQ K;conv=>whnf
  refine⟨_,_,hE7.sv,?_⟩;conv=>whnf
  refine⟨_,_,hE7.rs,?_⟩;conv=>whnf
  refine⟨_,_,St.upd_same _ _ _,?_⟩;conv=>whnf
  refine⟨_,_,⟨{ zeroV with kind:=12,ids:=[n.1],pieces:=ps,bound:=b },_,_,rfl,rfl,sf1.trans u1,Agr.of rfl (fun h=>by obtain⟨a,b⟩:=hrow h;exact⟨a,b.symm⟩)⟩,hE7.fin _,⟨rfl,rfl,rfl,⟨rfl,rfl⟩,rfl,rfl,⟨rfl,rfl⟩,rfl,rfl,rfl,rfl⟩⟩
 ·rw[if_neg he] at hR2;refine(row_err (G:=G) hE5.rd he (fun w hw=>hw0 w (u1.mem hw))).mono ?_
  rintro o T3 ⟨⟨ps,b,rfl⟩,rfl⟩;conv=>whnf
  refine⟨_,_,hE5.sv,?_⟩;conv=>whnf
  have hE7:=hE5.put [.int .i64 12,.str ByteArray.empty,.nils,.sl .any 2 (rowsP ps),.str b,.nils,.sl (.own bb) 1 [[.str n.1]],.int .i64 0,.str ByteArray.empty,.str ByteArray.empty]
  refine hK _ _ ?_;clear hK hQ K;conv=>whnf
  refine⟨_,_,hE7.sv,?_⟩;conv=>whnf
  refine⟨_,_,hE7.rs,?_⟩;conv=>whnf
  refine⟨_,_,St.upd_same _ _ _,?_⟩;conv=>whnf
  refine⟨_,_,⟨{ zeroV with kind:=12,ids:=[n.1],pieces:=ps,bound:=b },_,_,rfl,rfl,u1,by rw[hR2];exact Agr.of rfl (fun h=>absurd h he)⟩,hE7.fin _,⟨rfl,rfl,rfl,⟨rfl,rfl⟩,rfl,rfl,⟨rfl,rfl⟩,rfl,rfl,rfl,rfl⟩⟩
theorem step_concl{S:St}{rb:Nat}{ws0:List ByteArray}(h:S rb=some (rdO ws0 0))(hw0:∀ w∈ws0,w.size≤9000000)(hn0:ws0.length≤9000000){w:ByteArray}(hw:w=kConc) :
 Triple P (C G) 58 [.ref rb 0,.str w] S fun o S'=>∃ v' ws' e',o=.ret (stepAV v')∧S'=S.upd rb (rdO ws' e')∧ws' <:+ ws0∧Agr v' ws' e' (tabR w ws0):=by
 obtain⟨R,hR⟩:∃ R,tabR w ws0=R:=⟨_,rfl⟩;rw[hR];refine triple_of_awp (hT G) hm Tryz.func58 rfl (by decide +kernel) rfl (by decide +kernel) (by show 2≤_;decide +kernel) rfl ?_
 refine awp_seq2 fun K hK hQ=>?_
 conv=>whnf
 intro b2 hb2;conv=>whnf
 refine hK _ _ ?_;clear hK hQ K;refine awp_seq2 fun K hK hQ=>?_
 conv=>whnf
 intro b3 hb3;conv=>whnf
 refine hK _ _ ?_;clear hK hQ K;have hE:EndS S ((S.upd b2 (.obj 54 stepZ)).upd b3 (.obj 54 stepZ)) rb b2 b3 ws0 0 stepZ:=
  ⟨St.up hb3 (St.up hb2 h),St.upd_same _ _ _,St.up hb3 (St.upd_same _ _ _),fun x p _ h2=>St.up hb3 (St.up hb2 h2),(fun e=>by rw[e,h] at hb2;cases hb2),(fun e=>by rw[e,St.up hb2 h] at hb3;cases hb3),(fun e=>by rw[e,St.upd_same] at hb3;cases hb3),hb2,St.no hb3⟩
 change awp _ _ _ _ ((S.upd b2 (.obj 54 stepZ)).upd b3 (.obj 54 stepZ)) _;generalize (S.upd b2 (.obj 54 stepZ)).upd b3 (.obj 54 stepZ)=F at *;clear hb2 hb3;refine awp_seq2 fun K hK hQ=>?_
 conv=>whnf
 rw[show decide (w=(⟨#[112,115,101,117,100,111,45,66,111,111,108,101,97,110]⟩:ByteArray))=false from decide_eq_false (show ¬ w=kHead from by rw[hw];decide)]
 conv=>whnf
 rw[show decide (w=(⟨#[102]⟩:ByteArray))=false from decide_eq_false (show ¬ w=kF from by rw[hw];decide)]
 conv=>whnf
 rw[show decide (w=(⟨#[112,111,108]⟩:ByteArray))=false from decide_eq_false (show ¬ w=kPol from by rw[hw];decide)]
 conv=>whnf
 rw[show decide (w=(⟨#[114,117,112]⟩:ByteArray))=false from decide_eq_false (show ¬ w=kRup from by rw[hw];decide)]
 conv=>whnf
 rw[show decide (w=(⟨#[101]⟩:ByteArray))=false from decide_eq_false (show ¬ w=kE from by rw[hw];decide)]
 conv=>whnf
 rw[show decide (w=(⟨#[115,111,108,105]⟩:ByteArray))=false from decide_eq_false (show ¬ w=kSoli from by rw[hw];decide)]
 conv=>whnf
 rw[show decide (w=(⟨#[115,111,108,120]⟩:ByteArray))=false from decide_eq_false (show ¬ w=kSolx from by rw[hw];decide)]
 conv=>whnf
 rw[show decide (w=(⟨#[100,101,108]⟩:ByteArray))=false from decide_eq_false (show ¬ w=kDel from by rw[hw];decide)]
 conv=>whnf
 rw[show decide (w=(⟨#[111,117,116,112,117,116]⟩:ByteArray))=false from decide_eq_false (show ¬ w=kOut from by rw[hw];decide)]
 conv=>whnf
 rw[show decide (w=(⟨#[99,111,110,99,108,117,115,105,111,110]⟩:ByteArray))=true from decide_eq_true hw];conv=>whnf
 unfold tabR tabG at hR;rw[if_neg (show ¬ w=kHead from by rw[hw];decide),if_neg (show ¬ w=kF from by rw[hw];decide),if_neg (show ¬ w=kPol from by rw[hw];decide),if_neg (show ¬ w=kRup from by rw[hw];decide),if_neg (show ¬ w=kSoli from by rw[hw];decide),if_neg (show ¬ w=kSolx from by rw[hw];decide),if_neg (show ¬ w=kE from by rw[hw];decide),if_neg (show ¬ w=kDel from by rw[hw];decide),if_neg (show ¬ w=kStar from by rw[hw];decide),if_neg (show ¬ w=kOut from by rw[hw];decide),if_pos hw] at hR
 dsimp only at hR;refine(ends_ok1 (G:=G) hE.rd hw0).mono ?_;rintro o T3 ⟨v',ws',e',rfl,rfl,sf1,hag⟩;rw[hR] at hag;have hE2:=hE.rdr ws' e';conv=>whnf
 refine⟨_,_,hE2.sv,?_⟩;conv=>whnf
 have hE3:=hE2.put [.int .i64 v'.kind,.str v'.num,.sl .any 3 (rowsO v'.ops),.sl .any 2 (rowsP v'.pieces),.str v'.bound,.sl .any 1 (rowsI v'.lits),.sl .any 1 (rowsS v'.ids),.int .i64 v'.n6,.str v'.s7,.str v'.s8]
 refine hK _ _ ?_;clear hK hQ K;conv=>whnf
 refine⟨_,_,hE3.sv,?_⟩;conv=>whnf
 refine⟨_,_,hE3.rs,?_⟩;conv=>whnf
 refine⟨_,_,St.upd_same _ _ _,?_⟩;conv=>whnf
 exact⟨_,_,⟨v',_,_,rfl,rfl,sf1,hag⟩,hE3.fin _,AV.leS_refl _ _ _⟩
end Go.Proofs.YtogipknpafkfpaaGreatDoor.Aw

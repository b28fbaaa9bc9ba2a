/- Package hallmarkref8: the reader's step, one theorem for each first word (printed by gen_rb4.py). Package hallmarkref8:  -/
import Derived.Test.YtogipknpafkfpaaGreatDoorPpr18
import Derived.Test.YtogipknpafkfpaaGreatDoorPpr11
import Derived.Test.YtogipknpafkfpaaGreatDoorPpr15
import Derived.Test.YtogipknpafkfpaaGreatDoorPpr16
import Derived.Test.YtogipknpafkfpaaGreatDoorPpr14
set_option linter.all false
set_option maxRecDepth 100000
namespace Go.Proofs.YtogipknpafkfpaaGreatDoor.Aw
open Go Go.RowKit
variable {G:Nat→Option (List AV)}
theorem step_del{S:St}{rb:Nat}{ws0:List ByteArray}(h:S rb=some (rdO ws0 0))(hw0:∀ w∈ws0,w.size≤9000000)(hn0:ws0.length≤9000000){w:ByteArray}(hw:w=kDel) :
 Triple P (C G) 58 [.ref rb 0,.str w] S fun o S'=>∃ v' ws' e',o=.ret (stepAV v')∧S'=S.upd rb (rdO ws' e')∧ws' <:+ ws0∧Agr v' ws' e' (tabR w ws0):=by
 obtain⟨R,hR⟩:∃ R,tabR w ws0=R:=⟨_,rfl⟩;rw[hR];refine triple_of_awp (hT G) hm Tryz.func58 rfl (by decide +kernel) rfl (by decide +kernel) (by show 2≤_;decide +kernel) rfl ?_
 refine awp_seq2 fun K hK hQ=>?_
 conv=>whnf
 intro b2 hb2;conv=>whnf
 refine hK _ _ ?_;clear hK hQ K;refine awp_seq2 fun K hK hQ=>?_
 conv=>whnf
 intro b3 hb3;conv=>whnf
 refine hK _ _ ?_;clear hK hQ K;have hE:EndS S ((S.upd b2 (.obj 54 stepZ)).upd b3 (.obj 54 stepZ)) rb b2 b3 ws0 0 stepZ:=
  ⟨St.up hb3 (St.up hb2 h),St.upd_same _ _ _,St.up hb3 (St.upd_same _ _ _),fun x p _ h2=>St.up hb3 (St.up hb2 h2),(fun e=>by rw[e,h] at hb2;cases hb2),(fun e=>by rw[e,St.up hb2 h] at hb3;cases hb3),(fun e=>by rw[e,St.upd_same] at hb3;cases hb3),hb2,St.no hb3⟩
 change awp _ _ _ _ ((S.upd b2 (.obj 54 stepZ)).upd b3 (.obj 54 stepZ)) _;generalize (S.upd b2 (.obj 54 stepZ)).upd b3 (.obj 54 stepZ)=F at *;clear hb2 hb3;refine awp_seq2 fun K hK hQ=>?_
 conv=>whnf
 rw[show decide (w=(⟨#[112,115,101,117,100,111,45,66,111,111,108,101,97,110]⟩:ByteArray))=false from decide_eq_false (show ¬ w=kHead from by rw[hw];decide)]
 conv=>whnf
 rw[show decide (w=(⟨#[102]⟩:ByteArray))=false from decide_eq_false (show ¬ w=kF from by rw[hw];decide)]
 conv=>whnf
 rw[show decide (w=(⟨#[112,111,108]⟩:ByteArray))=false from decide_eq_false (show ¬ w=kPol from by rw[hw];decide)]
 conv=>whnf
 rw[show decide (w=(⟨#[114,117,112]⟩:ByteArray))=false from decide_eq_false (show ¬ w=kRup from by rw[hw];decide)]
 conv=>whnf
 rw[show decide (w=(⟨#[101]⟩:ByteArray))=false from decide_eq_false (show ¬ w=kE from by rw[hw];decide)]
 conv=>whnf
 rw[show decide (w=(⟨#[115,111,108,105]⟩:ByteArray))=false from decide_eq_false (show ¬ w=kSoli from by rw[hw];decide)]
 conv=>whnf
 rw[show decide (w=(⟨#[115,111,108,120]⟩:ByteArray))=false from decide_eq_false (show ¬ w=kSolx from by rw[hw];decide)]
 conv=>whnf
 rw[show decide (w=(⟨#[100,101,108]⟩:ByteArray))=true from decide_eq_true hw];conv=>whnf
 unfold tabR tabG at hR;rw[if_neg (show ¬ w=kHead from by rw[hw];decide),if_neg (show ¬ w=kF from by rw[hw];decide),if_neg (show ¬ w=kPol from by rw[hw];decide),if_neg (show ¬ w=kRup from by rw[hw];decide),if_neg (show ¬ w=kSoli from by rw[hw];decide),if_neg (show ¬ w=kSolx from by rw[hw];decide),if_neg (show ¬ w=kE from by rw[hw];decide),if_pos hw] at hR
 dsimp only at hR;refine⟨_,_,hE.sv,?_⟩;conv=>whnf
 have hE2:=hE.put [.int .i64 6,.str ByteArray.empty,.nils,.nils,.str ByteArray.empty,.nils,.nils,.int .i64 0,.str ByteArray.empty,.str ByteArray.empty]
 obtain⟨oo,ho⟩:∃ o,exactG ws0 idWords=o:=⟨_,rfl⟩;have hm:=one_ok (G:=G) hE2.rd ⟨#[105,100]⟩;rw[one_wordsR,show[(⟨#[105,100]⟩:ByteArray)]=idWords from rfl,wordsR_exact,ho] at hm;have u1:oo.1 <:+ ws0:=by rw[← ho];exact exactG_suffix _ _
 obtain⟨n,hn⟩:∃ o,numR 1 oo.1 oo.2=o:=⟨_,rfl⟩;have u3:n.2.2 <:+ ws0:=by rw[← hn];exact(numR_suffix _ _ _).trans u1
 refine hm.mono ?_;rintro o T3 ⟨rfl,rfl⟩;have hE3:=hE2.rdr oo.1 oo.2;have m2:=number1_ok (G:=G) hE3.rd (fun w hw=>hw0 w (u1.mem hw)) 1 (by omega) (by omega)
 rw[hn] at m2;obtain⟨W,hW1,hW2⟩:∃ W:List ByteArray×Int×List ByteArray,(n.2.1=0→idsG n.2.2 [n.1]=W)∧(n.2.1≠0→W.2.1=n.2.1):=by
  by_cases he:n.2.1=0
  ·exact⟨_,fun _=>rfl,fun h=>absurd he h⟩
  ·exact⟨([],n.2.1,[]),fun h=>absurd h he,fun _=>rfl⟩
 have hAgr:∀ (acc:List ByteArray) (e:Int) (ws:List ByteArray),e=W.2.1→(e=0→acc=W.1∧ws=W.2.2)→Agr { zeroV with kind:=6,ids:=acc } ws e R:=by
  intro acc e ws r1 r2;rw[← hR];unfold delG;rw[ho]
  by_cases h0:oo.2=0
  ·rw[if_pos h0];rw[h0,numR_ok] at hn;rw[hn]
   by_cases h1:n.2.1=0
   ·rw[if_pos h1,hW1 h1];exact Agr.of r1 (fun h=>by
     rw[show(withIds W { zeroV with kind:=6 }).1=W.2.1 from rfl,← r1] at h;obtain⟨a,b⟩:=r2 h;exact⟨b,by rw[a];rfl⟩)
   ·rw[if_neg h1];exact Agr.of (by rw[r1];exact hW2 h1) (fun h=>absurd h h1)
  ·rw[if_neg h0];rw[numR_err h0] at hn;subst hn;exact Agr.of (by rw[r1];exact hW2 h0) (fun h=>absurd h h0)
 clear hR;have hln:(1:Nat)+n.2.2.length≤9000001:=by have:=u3.length_le;omega
 have hE4:=(hE3.rdr n.2.2 n.2.1).put [.int .i64 6,.str ByteArray.empty,.nils,.nils,.str ByteArray.empty,.nils,.sl (.acc 0) 1 (rowsS []),.int .i64 0,.str ByteArray.empty,.str ByteArray.empty]
 have n3:=hE3.n3
 generalize hBF:(F.upd b3 (.obj 54 [.int .i64 6,.str ByteArray.empty,.nils,.nils,.str ByteArray.empty,.nils,.nils,.int .i64 0,.str ByteArray.empty,.str ByteArray.empty])).upd rb (rdO oo.1 oo.2)=B at hE3 hE4 m2 ⊢;clear hBF;refine⟨[],(.free 0 (.free 2 (.one 1 (.one 3 (.one 4 (.one 5 (.free 6 (.one 7 .done .none)) .none) .none) .none) (.one 3 (.free 1 (.one 4 (.one 5 (.free 6 (.one 7 .done .none)) .none) .none)) .none)))),_,by decide +kernel,?_,fun _ _ h=>⟨_,.inl rfl,h⟩⟩
 conv=>whnf
 refine⟨?_,?_⟩
 ·refine⟨_,_,hE3.sv,?_⟩;conv=>whnf
  refine m2.mono ?_;rintro o T4 ⟨rfl,rfl⟩;conv=>whnf
  intro bb hbb;conv=>whnf
  refine⟨by show 1*16≤_;decide,?_⟩
  conv=>whnf
  intro b' c3;conv=>whnf
  have h5:=((AccOk.init (B.upd rb (rdO n.2.2 n.2.1)) 9 1 0).other hbb (.tip 9 1 1)).push (es:=[]) (m:=1) rfl (fun _=>rfl) (fun h=>absurd rfl h) c3 rfl
  refine⟨_,_,h5.le _ _ (hE3.rdr n.2.2 n.2.1).sv,?_⟩;conv=>whnf
  have h6:=h5.over (x:=b3) (hE3.rdr n.2.2 n.2.1).sv (.obj 54 [.int .i64 6,.str ByteArray.empty,.nils,.nils,.str ByteArray.empty,.nils,.sl (.acc b') 1 (rowsS [n.1]),.int .i64 0,.str ByteArray.empty,.str ByteArray.empty])
  have h7:=St.leW_upd (cs':=[.int .i64 6,.str ByteArray.empty,.nils,.nils,.str ByteArray.empty,.nils,.sl (.acc b') 1 (rowsS [n.1]),.int .i64 0,.str ByteArray.empty,.str ByteArray.empty]) (St.upd_same (((B.upd rb (rdO n.2.2 n.2.1)).upd bb (.tip 9 1 1)).upd b' (.tip 9 1 1)) b3 (.obj 54 [.int .i64 6,.str ByteArray.empty,.nils,.nils,.str ByteArray.empty,.nils,.sl (.own b') 1 [[.str n.1]],.int .i64 0,.str ByteArray.empty,.str ByteArray.empty])) ⟨rfl,rfl,rfl,rfl,rfl,rfl,⟨by simp,rfl,rfl,rfl⟩,rfl,rfl,rfl,trivial⟩
  rw[St.upd_upd] at h7;have n3:=hE3.n3;refine⟨⟨List ByteArray×Int×List ByteArray×Nat,fun x=>[(0,.ref rb 0),(4,.ref b2 0),(5,.ref b3 0)],
   fun x S1=>AccOk ((B.upd rb (rdO x.1 x.2.1)).upd b3 (.obj 54 [.int .i64 6,.str ByteArray.empty,.nils,.nils,.str ByteArray.empty,.nils,.sl (.acc x.2.2.2) 1 (rowsS x.2.2.1),.int .i64 0,.str ByteArray.empty,.str ByteArray.empty])) S1 9 1 x.2.2.2 x.2.2.1.length∧x.2.2.1.length+x.1.length≤9000001∧x.1 <:+ ws0∧
    (x.2.1=0→idsG x.1 x.2.2.1=W)∧(x.2.1≠0→W.2.1=x.2.1),fun x=>x.1.length⟩,⟨(n.2.2,n.2.1,[n.1],b'),⟨rfl,rfl,rfl,trivial⟩,_,h7,h6,hln,u3,hW1,hW2⟩,?_⟩
  rintro⟨ws,e,acc,ba⟩ S1 ⟨g1,g2,g3,g4,g5⟩;dsimp only at g1 g2 g3 g4 g5;have hB1:=((hE3.rdr ws e).put [.int .i64 6,.str ByteArray.empty,.nils,.nils,.str ByteArray.empty,.nils,.sl (.acc ba) 1 (rowsS acc),.int .i64 0,.str ByteArray.empty,.str ByteArray.empty]).le g1.le;have hsw:∀ w∈ws,w.size≤9000000:=fun w hw=>hw0 w (g3.mem hw)
  have hmo:=more_ok (G:=G) hB1.rd
  cases hm:moreR ws e with
  | false=>
    rw[hm] at hmo;obtain⟨r1,r2⟩:=LoopR.ids hm g4 g5;conv=>whnf
    refine hmo.mono ?_;rintro o T2 ⟨rfl,rfl⟩;conv=>whnf
    refine hK _ _ ?_;clear hK hQ K;conv=>whnf
    refine⟨_,_,hB1.sv,?_⟩;conv=>whnf
    refine⟨_,_,hB1.rs,?_⟩;conv=>whnf
    refine⟨_,_,St.upd_same _ _ _,?_⟩;conv=>whnf
    refine⟨_,_,⟨{ zeroV with kind:=6,ids:=acc },_,_,rfl,rfl,g3,hAgr _ _ _ r1 r2⟩,hB1.fin _,⟨rfl,rfl,rfl,rfl,rfl,rfl,⟨rfl,rfl⟩,rfl,rfl,rfl,rfl⟩⟩
  | true=>
    rw[hm] at hmo;obtain⟨rfl,hne⟩:e=0∧ws≠[]:=by simpa [moreR] using hm
    obtain⟨li,hli⟩:∃ o,numR 1 ws 0=o:=⟨_,rfl⟩;obtain⟨k1,k2,k3⟩:=idsG_step hne acc hli;have u2:li.2.2 <:+ ws:=by rw[← hli];exact numR_suffix _ _ _
    have m2:=number1_ok (G:=G) hB1.rd hsw 1 (by omega) (by omega)
    rw[hli] at m2;have g1':=g1.over (x:=rb) (St.ov n3.symm (St.upd_same _ _ _)) (rdO li.2.2 li.2.1);rw[St.upd_comm n3,St.upd_upd] at g1';conv=>whnf
    refine hmo.mono ?_;rintro o T2 ⟨rfl,rfl⟩;refine⟨[],(.free 0 (.free 2 (.one 1 (.one 3 (.one 4 (.one 5 (.free 6 (.one 7 .done .none)) .none) .none) .none) (.one 3 (.free 1 (.one 4 (.one 5 (.free 6 (.one 7 .done .none)) .none) .none)) .none)))),_,by decide +kernel,?_,fun _ _ h=>⟨_,.inl rfl,h⟩⟩
    conv=>whnf
    refine⟨?_,?_⟩
    ·refine⟨_,_,hB1.sv,?_⟩;conv=>whnf
     refine m2.mono ?_;rintro o T4 ⟨rfl,rfl⟩;conv=>whnf
     intro bb hbb;have hTb:=g1'.other hbb (.tip 9 1 1);conv=>whnf
     refine⟨⟨fun hl=>?_,?_⟩,fun S4 c1 c2 b' c3=>?_⟩
     ·have:0<acc.length:=by cases acc with
       | nil=>exact absurd rfl hl
       | cons _ _=>simp
      rw[rowsS_len];exact hTb.tip this
     ·show((rowsS acc).length+1)*16≤_
      rw[rowsS_len];omega
     have h5:=hTb.push (m:=acc.length+1) (by rw[rowsS_len]) c1 c2 c3 rfl
     rw[rowsS_len];conv=>whnf
     rw[rowsS_snoc acc li.1];refine⟨_,_,h5.le _ _ (St.upd_same _ _ _),?_⟩;conv=>whnf
     have h6:=h5.over (x:=b3) (St.upd_same _ _ _) (.obj 54 [.int .i64 6,.str ByteArray.empty,.nils,.nils,.str ByteArray.empty,.nils,.sl (.acc b') 1 (rowsS (acc++[li.1])),.int .i64 0,.str ByteArray.empty,.str ByteArray.empty])
     rw[St.upd_upd] at h6;exact⟨(li.2.2,li.2.1,acc++[li.1],b'),⟨rfl,rfl,rfl,trivial⟩,⟨_,St.leW_refl _,by dsimp only;rw[List.length_append];exact h6,by simp<;>omega,u2.trans g3,fun h=>by rw[← g4 rfl];exact(k1 h).symm,fun h=>by rw[← g4 rfl];exact k2 h⟩,k3⟩
    ·refine m2.mono ?_;rintro o T4 ⟨rfl,rfl⟩;conv=>whnf
     refine⟨_,_,St.ov n3 hB1.sv,?_⟩;conv=>whnf
     intro bb hbb;have hTb:=g1'.other hbb (.tip 9 1 1);conv=>whnf
     refine⟨⟨fun hl=>?_,?_⟩,fun S4 c1 c2 b' c3=>?_⟩
     ·have:0<acc.length:=by cases acc with
       | nil=>exact absurd rfl hl
       | cons _ _=>simp
      rw[rowsS_len];exact hTb.tip this
     ·show((rowsS acc).length+1)*16≤_
      rw[rowsS_len];omega
     have h5:=hTb.push (m:=acc.length+1) (by rw[rowsS_len]) c1 c2 c3 rfl
     rw[rowsS_len];conv=>whnf
     rw[rowsS_snoc acc li.1];refine⟨_,_,h5.le _ _ (St.upd_same _ _ _),?_⟩;conv=>whnf
     have h6:=h5.over (x:=b3) (St.upd_same _ _ _) (.obj 54 [.int .i64 6,.str ByteArray.empty,.nils,.nils,.str ByteArray.empty,.nils,.sl (.acc b') 1 (rowsS (acc++[li.1])),.int .i64 0,.str ByteArray.empty,.str ByteArray.empty])
     rw[St.upd_upd] at h6;exact⟨(li.2.2,li.2.1,acc++[li.1],b'),⟨rfl,rfl,rfl,trivial⟩,⟨_,St.leW_refl _,by dsimp only;rw[List.length_append];exact h6,by simp<;>omega,u2.trans g3,fun h=>by rw[← g4 rfl];exact(k1 h).symm,fun h=>by rw[← g4 rfl];exact k2 h⟩,k3⟩
 ·refine m2.mono ?_;rintro o T4 ⟨rfl,rfl⟩;conv=>whnf
  refine⟨_,_,(hE3.rdr n.2.2 n.2.1).sv,?_⟩;conv=>whnf
  intro bb hbb;conv=>whnf
  refine⟨by show 1*16≤_;decide,?_⟩
  conv=>whnf
  intro b' c3;conv=>whnf
  have h5:=((AccOk.init (B.upd rb (rdO n.2.2 n.2.1)) 9 1 0).other hbb (.tip 9 1 1)).push (es:=[]) (m:=1) rfl (fun _=>rfl) (fun h=>absurd rfl h) c3 rfl
  refine⟨_,_,h5.le _ _ (hE3.rdr n.2.2 n.2.1).sv,?_⟩;conv=>whnf
  have h6:=h5.over (x:=b3) (hE3.rdr n.2.2 n.2.1).sv (.obj 54 [.int .i64 6,.str ByteArray.empty,.nils,.nils,.str ByteArray.empty,.nils,.sl (.acc b') 1 (rowsS [n.1]),.int .i64 0,.str ByteArray.empty,.str ByteArray.empty])
  have h7:=St.leW_upd (cs':=[.int .i64 6,.str ByteArray.empty,.nils,.nils,.str ByteArray.empty,.nils,.sl (.acc b') 1 (rowsS [n.1]),.int .i64 0,.str ByteArray.empty,.str ByteArray.empty]) (St.upd_same (((B.upd rb (rdO n.2.2 n.2.1)).upd bb (.tip 9 1 1)).upd b' (.tip 9 1 1)) b3 (.obj 54 [.int .i64 6,.str ByteArray.empty,.nils,.nils,.str ByteArray.empty,.nils,.sl (.own b') 1 [[.str n.1]],.int .i64 0,.str ByteArray.empty,.str ByteArray.empty])) ⟨rfl,rfl,rfl,rfl,rfl,rfl,⟨by simp,rfl,rfl,rfl⟩,rfl,rfl,rfl,trivial⟩
  rw[St.upd_upd] at h7;have n3:=hE3.n3;refine⟨⟨List ByteArray×Int×List ByteArray×Nat,fun x=>[(0,.ref rb 0),(4,.ref b2 0),(5,.ref b3 0)],
   fun x S1=>AccOk ((B.upd rb (rdO x.1 x.2.1)).upd b3 (.obj 54 [.int .i64 6,.str ByteArray.empty,.nils,.nils,.str ByteArray.empty,.nils,.sl (.acc x.2.2.2) 1 (rowsS x.2.2.1),.int .i64 0,.str ByteArray.empty,.str ByteArray.empty])) S1 9 1 x.2.2.2 x.2.2.1.length∧x.2.2.1.length+x.1.length≤9000001∧x.1 <:+ ws0∧
    (x.2.1=0→idsG x.1 x.2.2.1=W)∧(x.2.1≠0→W.2.1=x.2.1),fun x=>x.1.length⟩,⟨(n.2.2,n.2.1,[n.1],b'),⟨rfl,rfl,rfl,trivial⟩,_,h7,h6,hln,u3,hW1,hW2⟩,?_⟩
  rintro⟨ws,e,acc,ba⟩ S1 ⟨g1,g2,g3,g4,g5⟩;dsimp only at g1 g2 g3 g4 g5;have hB1:=((hE3.rdr ws e).put [.int .i64 6,.str ByteArray.empty,.nils,.nils,.str ByteArray.empty,.nils,.sl (.acc ba) 1 (rowsS acc),.int .i64 0,.str ByteArray.empty,.str ByteArray.empty]).le g1.le;have hsw:∀ w∈ws,w.size≤9000000:=fun w hw=>hw0 w (g3.mem hw)
  have hmo:=more_ok (G:=G) hB1.rd
  cases hm:moreR ws e with
  | false=>
    rw[hm] at hmo;obtain⟨r1,r2⟩:=LoopR.ids hm g4 g5;conv=>whnf
    refine hmo.mono ?_;rintro o T2 ⟨rfl,rfl⟩;conv=>whnf
    refine hK _ _ ?_;clear hK hQ K;conv=>whnf
    refine⟨_,_,hB1.sv,?_⟩;conv=>whnf
    refine⟨_,_,hB1.rs,?_⟩;conv=>whnf
    refine⟨_,_,St.upd_same _ _ _,?_⟩;conv=>whnf
    refine⟨_,_,⟨{ zeroV with kind:=6,ids:=acc },_,_,rfl,rfl,g3,hAgr _ _ _ r1 r2⟩,hB1.fin _,⟨rfl,rfl,rfl,rfl,rfl,rfl,⟨rfl,rfl⟩,rfl,rfl,rfl,rfl⟩⟩
  | true=>
    rw[hm] at hmo;obtain⟨rfl,hne⟩:e=0∧ws≠[]:=by simpa [moreR] using hm
    obtain⟨li,hli⟩:∃ o,numR 1 ws 0=o:=⟨_,rfl⟩;obtain⟨k1,k2,k3⟩:=idsG_step hne acc hli;have u2:li.2.2 <:+ ws:=by rw[← hli];exact numR_suffix _ _ _
    have m2:=number1_ok (G:=G) hB1.rd hsw 1 (by omega) (by omega)
    rw[hli] at m2;have g1':=g1.over (x:=rb) (St.ov n3.symm (St.upd_same _ _ _)) (rdO li.2.2 li.2.1);rw[St.upd_comm n3,St.upd_upd] at g1';conv=>whnf
    refine hmo.mono ?_;rintro o T2 ⟨rfl,rfl⟩;refine⟨[],(.free 0 (.free 2 (.one 1 (.one 3 (.one 4 (.one 5 (.free 6 (.one 7 .done .none)) .none) .none) .none) (.one 3 (.free 1 (.one 4 (.one 5 (.free 6 (.one 7 .done .none)) .none) .none)) .none)))),_,by decide +kernel,?_,fun _ _ h=>⟨_,.inl rfl,h⟩⟩
    conv=>whnf
    refine⟨?_,?_⟩
    ·refine⟨_,_,hB1.sv,?_⟩;conv=>whnf
     refine m2.mono ?_;rintro o T4 ⟨rfl,rfl⟩;conv=>whnf
     intro bb hbb;have hTb:=g1'.other hbb (.tip 9 1 1);conv=>whnf
     refine⟨⟨fun hl=>?_,?_⟩,fun S4 c1 c2 b' c3=>?_⟩
     ·have:0<acc.length:=by cases acc with
       | nil=>exact absurd rfl hl
       | cons _ _=>simp
      rw[rowsS_len];exact hTb.tip this
     ·show((rowsS acc).length+1)*16≤_
      rw[rowsS_len];omega
     have h5:=hTb.push (m:=acc.length+1) (by rw[rowsS_len]) c1 c2 c3 rfl
     rw[rowsS_len];conv=>whnf
     rw[rowsS_snoc acc li.1];refine⟨_,_,h5.le _ _ (St.upd_same _ _ _),?_⟩;conv=>whnf
     have h6:=h5.over (x:=b3) (St.upd_same _ _ _) (.obj 54 [.int .i64 6,.str ByteArray.empty,.nils,.nils,.str ByteArray.empty,.nils,.sl (.acc b') 1 (rowsS (acc++[li.1])),.int .i64 0,.str ByteArray.empty,.str ByteArray.empty])
     rw[St.upd_upd] at h6;exact⟨(li.2.2,li.2.1,acc++[li.1],b'),⟨rfl,rfl,rfl,trivial⟩,⟨_,St.leW_refl _,by dsimp only;rw[List.length_append];exact h6,by simp<;>omega,u2.trans g3,fun h=>by rw[← g4 rfl];exact(k1 h).symm,fun h=>by rw[← g4 rfl];exact k2 h⟩,k3⟩
    ·refine m2.mono ?_;rintro o T4 ⟨rfl,rfl⟩;conv=>whnf
     refine⟨_,_,St.ov n3 hB1.sv,?_⟩;conv=>whnf
     intro bb hbb;have hTb:=g1'.other hbb (.tip 9 1 1);conv=>whnf
     refine⟨⟨fun hl=>?_,?_⟩,fun S4 c1 c2 b' c3=>?_⟩
     ·have:0<acc.length:=by cases acc with
       | nil=>exact absurd rfl hl
       | cons _ _=>simp
      rw[rowsS_len];exact hTb.tip this
     ·show((rowsS acc).length+1)*16≤_
      rw[rowsS_len];omega
     have h5:=hTb.push (m:=acc.length+1) (by rw[rowsS_len]) c1 c2 c3 rfl
     rw[rowsS_len];conv=>whnf
     rw[rowsS_snoc acc li.1];refine⟨_,_,h5.le _ _ (St.upd_same _ _ _),?_⟩;conv=>whnf
     have h6:=h5.over (x:=b3) (St.upd_same _ _ _) (.obj 54 [.int .i64 6,.str ByteArray.empty,.nils,.nils,.str ByteArray.empty,.nils,.sl (.acc b') 1 (rowsS (acc++[li.1])),.int .i64 0,.str ByteArray.empty,.str ByteArray.empty])
     rw[St.upd_upd] at h6;exact⟨(li.2.2,li.2.1,acc++[li.1],b'),⟨rfl,rfl,rfl,trivial⟩,⟨_,St.leW_refl _,by dsimp only;rw[List.length_append];exact h6,by simp<;>omega,u2.trans g3,fun h=>by rw[← g4 rfl];exact(k1 h).symm,fun h=>by rw[← g4 rfl];exact k2 h⟩,k3⟩
theorem step_other{S:St}{rb:Nat}{ws0:List ByteArray}(h:S rb=some (rdO ws0 0))(hw0:∀ w∈ws0,w.size≤9000000)(hn0:ws0.length≤9000000){w:ByteArray}(hw:¬ (w=kHead∨w=kF∨w=kPol∨w=kRup∨w=kSoli∨w=kSolx∨w=kE∨w=kDel∨w=kStar∨w=kOut∨w=kConc∨w=kEnd)) :
 Triple P (C G) 58 [.ref rb 0,.str w] S fun o S'=>∃ v' ws' e',o=.ret (stepAV v')∧S'=S.upd rb (rdO ws' e')∧ws' <:+ ws0∧Agr v' ws' e' (tabR w ws0):=by
 obtain⟨R,hR⟩:∃ R,tabR w ws0=R:=⟨_,rfl⟩;rw[hR];refine triple_of_awp (hT G) hm Tryz.func58 rfl (by decide +kernel) rfl (by decide +kernel) (by show 2≤_;decide +kernel) rfl ?_
 refine awp_seq2 fun K hK hQ=>?_
 conv=>whnf
 intro b2 hb2;conv=>whnf
 refine hK _ _ ?_;clear hK hQ K;refine awp_seq2 fun K hK hQ=>?_
 conv=>whnf
 intro b3 hb3;conv=>whnf
 refine hK _ _ ?_;clear hK hQ K;have hE:EndS S ((S.upd b2 (.obj 54 stepZ)).upd b3 (.obj 54 stepZ)) rb b2 b3 ws0 0 stepZ:=
  ⟨St.up hb3 (St.up hb2 h),St.upd_same _ _ _,St.up hb3 (St.upd_same _ _ _),fun x p _ h2=>St.up hb3 (St.up hb2 h2),(fun e=>by rw[e,h] at hb2;cases hb2),(fun e=>by rw[e,St.up hb2 h] at hb3;cases hb3),(fun e=>by rw[e,St.upd_same] at hb3;cases hb3),hb2,St.no hb3⟩
 change awp _ _ _ _ ((S.upd b2 (.obj 54 stepZ)).upd b3 (.obj 54 stepZ)) _;generalize (S.upd b2 (.obj 54 stepZ)).upd b3 (.obj 54 stepZ)=F at *;clear hb2 hb3;refine awp_seq2 fun K hK hQ=>?_
 conv=>whnf
 simp only[not_or] at hw;obtain⟨n0,n1,n2,n3,n4,n5,n6,n7,n8,n9,n10,n11⟩:=hw;rw[show decide (w=(⟨#[112,115,101,117,100,111,45,66,111,111,108,101,97,110]⟩:ByteArray))=false from decide_eq_false (show ¬ w=kHead from n0)];conv=>whnf
 rw[show decide (w=(⟨#[102]⟩:ByteArray))=false from decide_eq_false (show ¬ w=kF from n1)];conv=>whnf
 rw[show decide (w=(⟨#[112,111,108]⟩:ByteArray))=false from decide_eq_false (show ¬ w=kPol from n2)];conv=>whnf
 rw[show decide (w=(⟨#[114,117,112]⟩:ByteArray))=false from decide_eq_false (show ¬ w=kRup from n3)];conv=>whnf
 rw[show decide (w=(⟨#[101]⟩:ByteArray))=false from decide_eq_false (show ¬ w=kE from n6)];conv=>whnf
 rw[show decide (w=(⟨#[115,111,108,105]⟩:ByteArray))=false from decide_eq_false (show ¬ w=kSoli from n4)];conv=>whnf
 rw[show decide (w=(⟨#[115,111,108,120]⟩:ByteArray))=false from decide_eq_false (show ¬ w=kSolx from n5)];conv=>whnf
 rw[show decide (w=(⟨#[100,101,108]⟩:ByteArray))=false from decide_eq_false (show ¬ w=kDel from n7)];conv=>whnf
 rw[show decide (w=(⟨#[111,117,116,112,117,116]⟩:ByteArray))=false from decide_eq_false (show ¬ w=kOut from n9)];conv=>whnf
 rw[show decide (w=(⟨#[99,111,110,99,108,117,115,105,111,110]⟩:ByteArray))=false from decide_eq_false (show ¬ w=kConc from n10)];conv=>whnf
 rw[show decide (w=(⟨#[101,110,100]⟩:ByteArray))=false from decide_eq_false (show ¬ w=kEnd from n11)];conv=>whnf
 unfold tabR tabG at hR;rw[if_neg n0,if_neg n1,if_neg n2,if_neg n3,if_neg n4,if_neg n5,if_neg n6,if_neg n7,if_neg n8,if_neg n9,if_neg n10,if_neg n11] at hR;dsimp only at hR;refine(rfail_ok (G:=G) hE.rd 80).mono ?_;rw[if_pos rfl];rintro o T3 ⟨rfl,rfl⟩;have hE2:=hE.rdr ws0 80;conv=>whnf
 refine hK _ _ ?_;clear hK hQ K;conv=>whnf
 refine⟨_,_,hE2.sv,?_⟩;conv=>whnf
 refine⟨_,_,hE2.rs,?_⟩;conv=>whnf
 refine⟨_,_,St.upd_same _ _ _,?_⟩;conv=>whnf
 refine⟨_,_,⟨zeroV,_,_,rfl,rfl,List.suffix_refl _,by rw[← hR];exact Agr.of rfl (fun h=>absurd (show(80:Int)=0 from h) (by decide))⟩,hE2.fin _,⟨rfl,rfl,rfl,rfl,rfl,rfl,rfl,rfl,rfl,rfl,rfl⟩⟩
theorem step_ok1{S:St}{rb:Nat}{ws0:List ByteArray}(h:S rb=some (rdO ws0 0))(hw0:∀ w∈ws0,w.size≤9000000)(hn0:ws0.length≤9000000){w:ByteArray}(hw:w≠kStar) :
 Triple P (C G) 58 [.ref rb 0,.str w] S fun o S'=>∃ v' ws' e',o=.ret (stepAV v')∧S'=S.upd rb (rdO ws' e')∧ws' <:+ ws0∧Agr v' ws' e' (tabR w ws0):=by
 by_cases h_head:w=kHead
 ·exact step_head h hw0 hn0 h_head
 by_cases h_count:w=kF
 ·exact step_count h hw0 hn0 h_count
 by_cases h_pol:w=kPol
 ·exact step_pol h hw0 hn0 h_pol
 by_cases h_rup:w=kRup
 ·exact step_rup h hw0 hn0 h_rup
 by_cases h_soli:w=kSoli
 ·exact step_soli h hw0 hn0 h_soli
 by_cases h_solx:w=kSolx
 ·exact step_solx h hw0 hn0 h_solx
 by_cases h_same:w=kE
 ·exact step_same h hw0 hn0 h_same
 by_cases h_del:w=kDel
 ·exact step_del h hw0 hn0 h_del
 by_cases h_output:w=kOut
 ·exact step_output h hw0 hn0 h_output
 by_cases h_concl:w=kConc
 ·exact step_concl h hw0 hn0 h_concl
 by_cases h_last:w=kEnd
 ·exact step_last h hw0 hn0 h_last
 exact step_other h hw0 hn0 (by simp only[not_or];exact⟨h_head,h_count,h_pol,h_rup,h_soli,h_solx,h_same,h_del,hw,h_output,h_concl,h_last⟩)
theorem Parse_ref_ok(s:ByteArray)(hs:s.size≤8999999)(S:St) :
 Triple P (C G) 21 [.str s] S fun o S'=>o=.ret (.tu [stepAV (parseP s).1,.int .i64 (parseP s).2])∧S'=S:=by
 have hwo:OkW (wordsL s):=⟨fun w hw=>Nat.le_trans (wordsL_size s w hw) (by omega),Nat.le_trans (wordsL_len s) (by omega)⟩
 have hwd:=Words_ok (G:=G) s (by omega)
 unfold parseP;generalize wordsL s=ws at *;obtain⟨PP,hPP⟩:∃ p,parseW ws=p:=⟨_,rfl⟩;rw[hPP];refine triple_of_awp (hT G) hm Tryz.func21 rfl (by decide +kernel) rfl (by decide +kernel) (by show 1≤_;decide +kernel) rfl ?_
 refine awp_seq2 fun K hK hQ=>?_
 conv=>whnf
 intro b2 hb2;conv=>whnf
 refine hK _ _ ?_;clear hK hQ K;refine awp_seq2 fun K hK hQ=>?_
 conv=>whnf
 refine(hwd _).mono ?_;rintro o T ⟨rfl,rfl⟩;conv=>whnf
 intro b4 hb4;conv=>whnf
 refine hK _ _ ?_;clear hK hQ K hwd;have q2:((S.upd b2 (.obj 54 stepZ)).upd b4 (rdO ws 0)) b2=some (.obj 54 stepZ):=St.up (p:=rdO ws 0) hb4 (St.upd_same S b2 (.obj 54 stepZ));have q4:=St.upd_same (S.upd b2 (.obj 54 stepZ)) b4 (rdO ws 0);have n42:b4≠b2:=fun e=>by rw[e,St.upd_same] at hb4;cases hb4
 have hle:∀ X,St.le S (((S.upd b2 (.obj 54 stepZ)).upd b4 (rdO ws 0)).upd b2 X):=fun X x p hx=>by
  have h2:x≠b2:=fun e=>by rw[e,hb2] at hx;cases hx
  have h4:x≠b4:=fun e=>by rw[e,St.no hb4] at hx;cases hx
  rw[St.upd_ne _ _ _ _ h2,St.upd_ne _ _ _ _ h4,St.upd_ne _ _ _ _ h2];exact hx
 have hle4:∀ ws' e' X,St.le S ((((S.upd b2 (.obj 54 stepZ)).upd b4 (rdO ws 0)).upd b4 (rdO ws' e')).upd b2 X):=fun ws' e' X x p hx=>by
  have h2:x≠b2:=fun e=>by rw[e,hb2] at hx;cases hx
  have h4:x≠b4:=fun e=>by rw[e,St.no hb4] at hx;cases hx
  rw[St.upd_ne _ _ _ _ h2,St.upd_ne _ _ _ _ h4,St.upd_ne _ _ _ _ h4,St.upd_ne _ _ _ _ h2];exact hx
 change awp _ _ _ _ ((S.upd b2 (.obj 54 stepZ)).upd b4 (rdO ws 0)) _;generalize (S.upd b2 (.obj 54 stepZ)).upd b4 (rdO ws 0)=T at *
 cases ws with
 | nil=>
   conv=>whnf
   refine⟨_,_,q4,?_⟩;conv=>whnf
   intro _;conv=>whnf
   refine⟨_,_,q2,?_⟩;conv=>whnf
   refine⟨_,_,St.upd_same _ _ _,?_⟩;conv=>whnf
   have hP1:PP=({ zeroV with kind:=7 },0):=hPP.symm
   subst hP1;rw[if_pos rfl];refine⟨_,_,⟨rfl,rfl⟩,hle _,⟨⟨rfl,rfl,rfl,rfl,rfl,rfl,rfl,rfl,rfl,rfl,rfl⟩,rfl,rfl⟩⟩
 | cons w l=>
   have ht:=rtake_ok1 (G:=G) q4
   unfold takeR at ht;rw[if_pos rfl] at ht;dsimp only at ht;have ga:(rowsS (w::l))[(0:Int).toNat]? = some [.str w]:=rfl;have hpos:(((rowsS (w::l)).length:Int) == 0)=false:=beq_false_of_ne (by rw[rowsS_len];simp<;>omega)
   unfold rdO at q4;generalize rowsS (w::l)=rr at *;refine awp_seq2 fun K2 hK2 hQ2=>?_
   refine awp_seq2 fun K hK hQ=>?_
   refine awp_region ?_;refine aOps_cut 7 fun K' hK'=>?_
   conv=>whnf
   refine⟨_,_,q4,?_⟩;conv=>whnf
   intro _;conv=>whnf
   rw[hpos];conv=>whnf
   refine hK' _ _ ?_;clear hK' K';refine aOps_cut 4 fun K' hK'=>?_
   conv=>whnf
   refine⟨_,_,q4,?_⟩;conv=>whnf
   refine hK' _ _ ?_;clear hK' K';conv=>whnf
   refine⟨_,⟨by decide,ga⟩,?_⟩
   conv=>whnf
   refine hK _ _ ?_;clear hK hQ K
   by_cases hst:w=kStar
   ·conv=>whnf
    rw[show decide (w=(⟨#[42]⟩:ByteArray))=true from decide_eq_true hst];subst hst;conv=>whnf
    refine⟨_,_,q2,?_⟩;conv=>whnf
    refine hQ2 _ _ _ (by simp) ?_
    conv=>whnf
    refine⟨_,_,St.upd_same _ _ _,?_⟩;conv=>whnf
    have htk:tabG kStar=some noteG:=by
     unfold tabG;rw[if_neg (by decide),if_neg (by decide),if_neg (by decide),if_neg (by decide),if_neg (by decide),if_neg (by decide),if_neg (by decide),if_neg (by decide),if_pos rfl]
    have hP1:PP=({ zeroV with kind:=7 },0):=by
     rw[← hPP,parseW_tabR];unfold tabR;rw[htk];rfl
    subst hP1;rw[if_pos rfl];refine⟨_,_,⟨rfl,rfl⟩,hle _,?_⟩;exact⟨⟨rfl,rfl,rfl,rfl,rfl,rfl,rfl,rfl,rfl,rfl,rfl⟩,rfl,rfl⟩
   ·conv=>whnf
    rw[show decide (w=(⟨#[42]⟩:ByteArray))=false from decide_eq_false hst];conv=>whnf
    refine hK2 _ _ ?_;clear hK2 hQ2 K2;rw[parseW_tabR] at hPP;have hsl:∀ y∈l,y.size≤9000000:=fun y hy=>hwo.1 y (by simp[hy])
    have hln:l.length≤9000000:=by have:=hwo.2;simp at this;omega
    have p4:=St.upd_same T b4 (rdO l 0)
    have hs:=step_ok1 (G:=G) p4 hsl hln hst
    rw[hPP.symm];conv=>whnf
    refine ht.mono ?_;rintro o T2 ⟨rfl,rfl⟩;conv=>whnf
    refine hs.mono ?_;rintro o T2 ⟨v',ws',e',rfl,rfl,sf,hag⟩;rw[St.upd_upd];have hr:=rest_ok (G:=G) (St.upd_same T b4 (rdO ws' e'));obtain⟨hag1,hag2⟩:=hag;rw[hag1,St.upd_upd] at hr;generalize hFF:finG (tabR w l)=FF at *;generalize hRR:tabR w l=RR at *;conv=>whnf
    intro b7 hb7;conv=>whnf
    refine⟨_,_,St.upd_same _ _ _,?_⟩;conv=>whnf
    rw[St.upd_upd];have hb7':T.upd b4 (rdO ws' FF.2) b7=none:=by
     by_cases e:b7=b4
     ·subst e;rw[St.upd_same] at hb7;cases hb7
     ·rw[St.upd_ne _ _ _ _ e] at hb7 ⊢;exact hb7
    have n74:b7≠b4:=fun e=>by rw[e,St.upd_same] at hb7;cases hb7
    have n72:b7≠b2:=fun e=>by rw[e,St.ov n42.symm q2] at hb7;cases hb7
    have hr:=rest_ok (G:=G) (S:=(T.upd b4 (rdO ws' e')).upd b7 (.obj 54 [.int .i64 v'.kind,.str v'.num,.sl .any 3 (rowsO v'.ops),.sl .any 2 (rowsP v'.pieces),.str v'.bound,.sl .any 1 (rowsI v'.lits),.sl .any 1 (rowsS v'.ids),.int .i64 v'.n6,.str v'.s7,.str v'.s8])) (St.ov n74.symm (St.upd_same _ _ _))
    rw[hag1,St.upd_comm n74,St.upd_upd] at hr;refine hr.mono ?_;rintro o T2 ⟨rfl,rfl⟩;have p4:((T.upd b4 (rdO ws' FF.2)).upd b7 (.obj 54 [.int .i64 v'.kind,.str v'.num,.sl .any 3 (rowsO v'.ops),.sl .any 2 (rowsP v'.pieces),.str v'.bound,.sl .any 1 (rowsI v'.lits),.sl .any 1 (rowsS v'.ids),.int .i64 v'.n6,.str v'.s7,.str v'.s8])) b4=some (rdO ws' FF.2):=St.ov n74.symm (St.upd_same _ _ _);have p2:((T.upd b4 (rdO ws' FF.2)).upd b7 (.obj 54 [.int .i64 v'.kind,.str v'.num,.sl .any 3 (rowsO v'.ops),.sl .any 2 (rowsP v'.pieces),.str v'.bound,.sl .any 1 (rowsI v'.lits),.sl .any 1 (rowsS v'.ids),.int .i64 v'.n6,.str v'.s7,.str v'.s8])) b2=some (.obj 54 stepZ):=St.ov n72.symm (St.ov n42.symm q2);have p7:((T.upd b4 (rdO ws' FF.2)).upd b7 (.obj 54 [.int .i64 v'.kind,.str v'.num,.sl .any 3 (rowsO v'.ops),.sl .any 2 (rowsP v'.pieces),.str v'.bound,.sl .any 1 (rowsI v'.lits),.sl .any 1 (rowsS v'.ids),.int .i64 v'.n6,.str v'.s7,.str v'.s8])) b7=some (.obj 54 [.int .i64 v'.kind,.str v'.num,.sl .any 3 (rowsO v'.ops),.sl .any 2 (rowsP v'.pieces),.str v'.bound,.sl .any 1 (rowsI v'.lits),.sl .any 1 (rowsS v'.ids),.int .i64 v'.n6,.str v'.s7,.str v'.s8]):=St.upd_same _ _ _;have hle7:∀ X,St.le S (((T.upd b4 (rdO ws' FF.2)).upd b7 (.obj 54 [.int .i64 v'.kind,.str v'.num,.sl .any 3 (rowsO v'.ops),.sl .any 2 (rowsP v'.pieces),.str v'.bound,.sl .any 1 (rowsI v'.lits),.sl .any 1 (rowsS v'.ids),.int .i64 v'.n6,.str v'.s7,.str v'.s8])).upd b2 X):=fun X x p hx=>by
     by_cases h7:x=b7
     ·have:=hle4 ws' FF.2 X _ _ hx
      rw[h7,St.upd_ne _ _ _ _ n72,hb7'] at this;cases this
     ·have:=hle4 ws' FF.2 X _ _ hx
      by_cases h2:x=b2
      ·rw[h2,St.upd_same] at this ⊢;exact this
      ·rw[St.upd_ne _ _ _ _ h2] at this ⊢;rw[St.upd_ne _ _ _ _ h7];exact this
    generalize (T.upd b4 (rdO ws' FF.2)).upd b7 (.obj 54 [.int .i64 v'.kind,.str v'.num,.sl .any 3 (rowsO v'.ops),.sl .any 2 (rowsP v'.pieces),.str v'.bound,.sl .any 1 (rowsI v'.lits),.sl .any 1 (rowsS v'.ids),.int .i64 v'.n6,.str v'.s7,.str v'.s8])=T7 at *;conv=>whnf
    refine⟨_,_,p4,?_⟩;conv=>whnf
    by_cases he:FF.2=0
    ·rw[he];conv=>whnf
     refine⟨_,_,p7,?_⟩;conv=>whnf
     refine⟨_,_,p2,?_⟩;conv=>whnf
     refine⟨_,_,St.upd_same _ _ _,?_⟩;conv=>whnf
     refine⟨_,_,⟨rfl,rfl⟩,hle7 _,?_⟩;have e1:FF.1=v':=by rw[hag2 he,← hFF];rfl
     rw[if_pos rfl,e1];exact AV.leS_refl _ _ _
    ·rw[show(FF.2 != 0)=true from by simpa using he]
     conv=>whnf
     refine⟨[],(.free 0 (.free 1 (.free 2 (.free 3 (.one 4 (.one 5 (.free 6 .done) .none) (.one 5 (.free 4 (.free 6 .done)) .none)))))),_,by decide +kernel,?_,fun _ _ h=>⟨_,.inl rfl,h⟩⟩
     conv=>whnf
     refine⟨?_,?_⟩
     ·refine⟨_,_,p4,?_⟩;conv=>whnf
      refine⟨_,_,p2,?_⟩;conv=>whnf
      refine⟨_,_,St.upd_same _ _ _,?_⟩;conv=>whnf
      refine⟨_,_,⟨rfl,rfl⟩,hle7 _,?_⟩;rw[if_neg he];exact⟨⟨rfl,rfl,rfl,rfl,rfl,rfl,rfl,rfl,rfl,rfl,rfl⟩,rfl,rfl⟩
     ·refine⟨_,_,p2,?_⟩;conv=>whnf
      refine⟨_,_,St.ov n42 p4,?_⟩;conv=>whnf
      refine⟨_,_,St.upd_same _ _ _,?_⟩;conv=>whnf
      refine⟨_,_,⟨rfl,rfl⟩,hle7 _,?_⟩;rw[if_neg he];exact⟨⟨rfl,rfl,rfl,rfl,rfl,rfl,rfl,rfl,rfl,rfl,rfl⟩,rfl,rfl⟩
theorem OkStep.len{v:StepV}(h:OkStep v):LenStep v:=
 ⟨by have:=h.ops.1;omega,by have:=h.row.1;omega,by have:=h.lits.1;omega,by have:=h.ids.1;omega⟩
theorem Print_r_ok(hG:G10 G)(v:StepV)(h:OkStep v)(hl:(lineV v).size≤8999999)(S:St) :
 Triple P (C G) 9 [stepAV v] S fun o S'=>o=.ret (.tu [.str (printP v).1,.int .i64 (printP v).2])∧S'=S:=by
 have htx:=fun S=>Line_r_ok (G:=G) hG v h S
 have hpa:=fun S=>Parse_ref_ok (G:=G) (lineV v) hl S
 have hsm:=fun S=>Same_ok (G:=G) v (parseP (lineV v)).1 h.len S
 rw[printR];have hpe:parseP (lineV v)=((parseP (lineV v)).1,(parseP (lineV v)).2):=rfl;generalize lineV v=tx at *;rw[hpe];clear hpe;generalize (parseP tx).1=v2 at *;generalize (parseP tx).2=e at *;refine triple_of_awp (hT G) hm Tryz.func9 rfl (by decide +kernel) rfl (by decide +kernel) (by show 1≤_;decide +kernel) rfl ?_
 refine awp_seq2 fun K hK hQ=>?_
 conv=>whnf
 intro b1 hb1;conv=>whnf
 refine hK _ _ ?_;clear hK hQ K;have q1:=St.upd_same S b1 (.obj 54 (stepR v));have hle1:=St.le_upd' (St.le_refl S) hb1 (.obj 54 (stepR v));refine awp_seq2 fun K hK hQ=>?_
 conv=>whnf
 refine⟨_,_,q1,?_⟩;conv=>whnf
 refine(htx _).mono ?_;rintro o T ⟨rfl,rfl⟩;conv=>whnf
 refine hK _ _ ?_;clear hK hQ K;refine awp_seq2 fun K hK hQ=>?_
 conv=>whnf
 refine(hpa _).mono ?_;rintro o T ⟨rfl,rfl⟩;conv=>whnf
 intro b5 hb5;conv=>whnf
 refine⟨_,_,St.upd_same _ _ _,?_⟩;conv=>whnf
 rw[St.upd_upd];have q5:=St.upd_same (S.upd b1 (.obj 54 (stepR v))) b5 (.obj 54 (stepR v2));have q15:((S.upd b1 (.obj 54 (stepR v))).upd b5 (.obj 54 (stepR v2))) b1=some (.obj 54 (stepR v)):=St.up hb5 q1;have hle:=St.le_trans hle1 (St.le_upd' (St.le_refl _) hb5 (.obj 54 (stepR v2)));refine hK _ _ ?_;clear hK hQ K;refine awp_seq2 fun K hK hQ=>?_
 by_cases he:e=0
 ·subst he
  by_cases hv:v=v2
  ·subst hv;rw[if_pos rfl] at hK;rw[decide_eq_true rfl] at hsm;conv=>whnf
   refine⟨_,_,q15,?_⟩;conv=>whnf
   refine⟨_,_,q5,?_⟩;conv=>whnf
   refine(hsm _).mono ?_;rintro o T ⟨rfl,rfl⟩;conv=>whnf
   refine hK _ _ ?_;clear hK hQ K;conv=>whnf
   exact⟨_,_,⟨rfl,rfl⟩,hle,AV.leS_refl _ _ _⟩
  ·rw[if_neg (fun h=>hv (Prod.mk.inj h).1.symm)] at hQ
   rw[decide_eq_false hv] at hsm;conv=>whnf
   refine⟨_,_,q15,?_⟩;conv=>whnf
   refine⟨_,_,q5,?_⟩;conv=>whnf
   refine(hsm _).mono ?_;rintro o T ⟨rfl,rfl⟩;conv=>whnf
   refine hQ _ _ _ (by simp) ?_
   conv=>whnf
   exact⟨_,_,⟨rfl,rfl⟩,hle,AV.leS_refl _ _ _⟩
 ·rw[if_neg (fun h=>he (Prod.mk.inj h).2)] at hQ
  conv=>whnf
  refine split_of (fun _=>?_) (fun hh=>absurd (by simpa using hh) he)
  conv=>whnf
  refine hQ _ _ _ (by simp) ?_
  conv=>whnf
  exact⟨_,_,⟨rfl,rfl⟩,hle,AV.leS_refl _ _ _⟩
def nils28:List AV:=[.nils,.nils,.nils,.nils,.nils,.nils,.nils,.nils,.nils,.nils,.nils,.nils,.nils,.nils,.nils,.nils,.nils,.nils,.nils,.nils,.nils,.nils,.nils,.nils,.nils,.nils,.nils,.nils]
theorem KInv.none(mk:Nat→List AV)(k N:Nat):KInv mk k AccL.empty AccL.empty N:=⟨[],rfl,rfl,Nat.zero_le _,fun _ h=>by cases h⟩
theorem WInv.none(S₀:St)(Kn:Nat→Nat)(e:TypeId)(mk:Nat→List AV)(N:Nat):WInv S₀ Kn e mk AccL.empty AccL.empty N:=⟨[],rfl,rfl,Nat.zero_le _,fun _ h=>by cases h⟩
theorem Rm.new{S:St}{b:Nat}(hb:S b=none):∃ S',Rm S (fun _=>0) S' b 0∧St.leW S' (S.upd b (.obj 44 nils28)):=by
 refine⟨S.upd b (.obj 44 (rmC fun _=>AccL.empty)),⟨fun _=>AccL.empty,⟨rfl,?_⟩,⟨WInv.none _ _ _ _ _,WInv.none _ _ _ _ _,KInv.none _ _ _,KInv.none _ _ _,KInv.none _ _ _⟩⟩,?_⟩
 ·rw[show fpsA (fun _=>AccL.empty)=[] from rfl]
  exact⟨by simp,by intro p hp;rw[List.mem_singleton] at hp;rw[hp];exact hb⟩
 ·have:=St.leW_upd (cs':=rmC fun _=>AccL.empty) (St.upd_same S b (.obj 44 nils28)) ⟨rfl,rfl,rfl,rfl,rfl,rfl,rfl,rfl,rfl,rfl,rfl,rfl,rfl,rfl,rfl,rfl,rfl,rfl,rfl,rfl,rfl,rfl,rfl,rfl,rfl,rfl,rfl,rfl,trivial⟩
  rw[St.upd_upd] at this;exact this
theorem rowsI_flat1:∀ L:List Int,(rowsI L).flatten=L.map (AV.int .i64)
 | []=>rfl
 | x::L=>by
   have:=rowsI_flat1 L
   unfold rowsI at this ⊢;rw[List.map_cons,List.flatten_cons,this];rfl
theorem prints_lent(hG:GS G)(hA:GAs G){T S1:St}(hle:St.le T S1){v:StepV}{bL bI c1 c2:Nat}{L:List Int}{I:List ByteArray}(hL:Has 3 mkI T bL (rowsI L) 4 c1)(hI:Has 9 mkT T bI (rowsS I) 4 c2)(e1:L.length=v.lits.length)(e2:I.length=v.ids.length)
 (h:OkStep (withLI v L I)) (ht:(textT (withLI v L I)).size≤8999999) (hl:(lineV (withLI v L I)).size≤8999999) :
 Triple P (C G) 10 [.ag (rowW v bL bI)] S1 (fun o S'=>o=.ret (.tu [.str (printP (withLI v L I)).1,.int .i64 (printP (withLI v L I)).2])∧S'=S1)
 ∧Triple P (C G) 9 [.ag (rowW v bL bI)] S1 (fun o S'=>o=.ret (.tu [.str (printP (withLI v L I)).1,.int .i64 (printP (withLI v L I)).2])∧S'=S1)
 ∧Triple P (C G) 12 [.ag (rowW v bL bI),stepAV (withLI v L I)] S1 (fun o S'=>o=.ret (.bool true)∧S'=S1):=by
 have hs:=lend_step hle hL hI e1 e2
 refine⟨(Print_ok (G:=G) hG hA _ h ht (parseP_len _ ht) St.emp).lend ⟨hs,rfl⟩ (FlatV.pair _ _ _),(Print_r_ok (G:=G) hG.tab _ h hl St.emp).lend ⟨hs,rfl⟩ (FlatV.pair _ _ _),?_⟩;have:=Same_ok (G:=G) (withLI v L I) (withLI v L I) h.len St.emp;rw[decide_eq_true rfl] at this;exact this.lend ⟨hs,AV.leS_refl _ _ _,rfl⟩ (FlatV.bool _)
theorem lawPrints_ok(hG:GS G)(hA:GAs G)(l:List StepV)(hsz:∀ v∈l,SzStep v)(hint:∀ v∈l,IntStep v)(S:St) :
 Triple P (C G) 3 [.sl .any 10 (rowsT l)] S fun o S'=>o=.ret (.bool true)∧S'=S:=by
 refine triple_of_awp (hT G) hm Tryz.func3 rfl (by decide +kernel) rfl (by decide +kernel) (by show 1≤_;decide +kernel) rfl ?_
 refine awp_seq2 fun K hK hQ=>?_
 conv=>whnf
 refine hK _ _ ?_;clear hK hQ K;refine awp_seq2 fun K hK hQ=>?_
 conv=>whnf
 refine(CMany_ok 200000 _).mono ?_;rintro o T2 ⟨b3,hb3,rfl,rfl⟩;conv=>whnf
 refine hK _ _ ?_;clear hK hQ K;have hc:=Steps_c (G:=G) (S:=S.upd b3 (.obj 73 [.int .i64 200000])) (St.upd_same _ _ _) (x:=200000) ⟨by decide,by decide⟩ l hsz
 rw[St.upd_upd] at hc;have hback:=cntSs_back (l:=l) (x:=200000);generalize cntSs 200000 l=z at *;refine awp_seq2 fun K hK hQ=>?_
 conv=>whnf
 refine hc.mono ?_;rintro o T2 ⟨rfl,rfl⟩;conv=>whnf
 refine hK _ _ ?_;clear hK hQ K;have hle3:St.le S (S.upd b3 (.obj 73 [.int .i64 z])):=St.le_upd' (St.le_refl _) hb3 _;have hok:=COk_ok (G:=G) (S:=S.upd b3 (.obj 73 [.int .i64 z])) (b:=b3) (x:=z) (St.upd_same _ _ _);generalize S.upd b3 (.obj 73 [.int .i64 z])=T3 at *;refine awp_seq2 fun K hK hQ=>?_
 conv=>whnf
 intro hlen;conv=>whnf
 by_cases h60:((rowsT l).length:Int) > 60
 ·rw[decide_eq_true h60];conv=>whnf
  refine hQ _ _ _ (by simp) ?_
  conv=>whnf
  exact⟨_,_,⟨rfl,rfl⟩,hle3,AV.leS_refl _ _ _⟩
 rw[decide_eq_false h60];conv=>whnf
 refine hok.mono ?_;rintro o T2 ⟨rfl,rfl⟩
 by_cases hz:0≤z
 case neg=>
  rw[decide_eq_false hz];conv=>whnf
  refine hQ _ _ _ (by simp) ?_
  conv=>whnf
  exact⟨_,_,⟨rfl,rfl⟩,hle3,AV.leS_refl _ _ _⟩
 rw[decide_eq_true hz];conv=>whnf
 refine hK _ _ ?_;clear hK hQ K;obtain⟨_,hz2⟩:=hback hz;have hw:wts l≤200000:=by omega
 have hll:=wts_len l
 have hst:∀ v∈l,wt v≤200000∧OkStep v∧(textT v).size≤8999999∧(lineV v).size≤8999999:=fun v hv=>by
  have h1:=wts_mem v hv
  have h2:=textT_wt (hint v hv)
  have h3:=lineV_wt (hint v hv)
  exact⟨by omega,ok_of_wt (by omega) (hint v hv),by omega,by omega⟩
 have hl60:l.length≤60:=by rw[rowsT_len] at h60;omega
 refine awp_seq2 fun K hK hQ=>?_
 conv=>whnf
 intro b4 hb4;conv=>whnf
 refine hK _ _ ?_;clear hK hQ K;obtain⟨R0,hR0,hw0⟩:=Rm.new hb4;have hrs:=(Steps_r_ok (G:=G) hR0 l (by omega) (fun v hv=>by
  have h:=(hst v hv).2.1
  exact⟨by have:=h.ops.1;omega,by have:=h.row.1;omega,by have:=h.lits.1;omega,by have:=h.ids.1;omega⟩)).weakS hw0
 unfold nils28 at hrs;refine awp_seq2 fun K hK hQ=>?_
 conv=>whnf
 refine hrs.mono ?_;rintro o R ⟨ls,T0,Kn,hls,rfl,hT0,_,hSt,hR⟩;clear hrs hw0 hR0 R0;conv=>whnf
 refine hK _ _ ?_;clear hK hQ K;have hlen2:ls.length=l.length:=by rw[← hls,List.length_map]
 -- the first round
 refine awp_seq2 fun K hK hQ=>?_
 conv=>whnf
 refine⟨⟨Nat,fun i=>[(0,.sl .any 10 (rowsT l)),(4,.ref b4 0),(5,.sl .any 10 (rowsW ls)),(6,.int .i64 (i:Int))],
  fun i S1=>S1=R∧i≤2*l.length,fun i=>2*l.length-i⟩,
  ⟨0,⟨⟨rfl,rfl⟩,rfl,⟨rfl,rfl⟩,rfl,trivial⟩,_,St.leW_refl _,rfl,Nat.zero_le _⟩,?_⟩
 rintro(i:Nat) S1 ⟨rfl,hi⟩;have w0:IntKind.i64.wrap (2*((rowsT l).length:Int))=((2*l.length:Nat):Int):=by
  rw[rowsT_len,show(2*(l.length:Int))=((2*l.length:Nat):Int) by omega]
  exact wrap_i64 (by omega) (by omega)
 refine awp_seq2 fun K2 hK2 hQ2=>?_
 conv=>whnf
 intro _;conv=>whnf
 rw[w0];refine split_of (fun hlt=>?_) (fun hlt=>?_)
 ·have hlt:i<2*l.length:=by have:=of_decide_eq_true hlt;omega
  have hl0:l.length≠0:=by omega
  have hm:((i:Int).tmod ((rowsT l).length:Int))=((i % l.length:Nat):Int):=by
   rw[rowsT_len];rfl
  have hjl:i % l.length<l.length:=Nat.mod_lt _ (by omega)
  have w1:IntKind.i64.wrap ((i:Int)+1)=((i+1:Nat):Int):=wrap_nat (by omega)
  generalize i % l.length=j at *;have ga:(rowsT l)[(j:Int).toNat]? = some (stepR l[j]):=by simp[rowsT,hjl]
  obtain⟨y,hy,hy1,gb⟩:∃ y,y∈ls∧y.1=l[j]∧(rowsW ls)[(j:Int).toNat]? = some (rowW y.1 y.2.1 y.2.2):=by
   have hjs:j<ls.length:=by omega
   refine⟨ls[j],List.getElem_mem hjs,?_,by simp[rowsW,hjs]⟩
   have:(ls.map (·.1))[j]? = l[j]?:=by rw[hls]
   simpa [hjs,hjl] using this
  have hyS:=hSt y hy
  obtain⟨v,bL,bI⟩:=y;dsimp only at hy1 gb hyS;obtain⟨hv1,hv2,hv3,hv4⟩:=hst v (by rw[hy1];exact List.getElem_mem hjl)
  rw[← hy1] at ga;obtain⟨c1,k1⟩:=hyS.l;obtain⟨c2,k2⟩:=hyS.i;obtain⟨p1,p2,p3⟩:=prints_lent (G:=G) hG hA hR.le k1 k2 rfl rfl hv2 hv3 hv4;rw[withLI_self] at p1 p2 p3;have p0:=Print_r_ok (G:=G) hG.tab v hv2 hv4 S1;generalize (printP v).1=tx at *;generalize (printP v).2=er at *;have hnum:=num_ok (G:=G) er S1;unfold rowW at p1 p2 p3 gb;unfold stepAV at p0 p3;unfold stepR at ga;conv=>whnf
  refine hK2 _ _ ?_;clear hK2 hQ2 K2;refine awp_seq2 fun K2 hK2 hQ2=>?_
  refine awp_blk ?_;refine awp_seq2 fun K3 hK3 hQ3=>?_
  conv=>whnf
  intro _;conv=>whnf
  refine⟨by rw[rowsT_len];omega,?_⟩
  conv=>whnf
  rw[hm];conv=>whnf
  refine hK3 _ _ ?_;clear hK3 hQ3 K3;refine awp_seq2 fun K3 hK3 hQ3=>?_
  conv=>whnf
  refine⟨_,⟨by omega,ga⟩,?_⟩
  conv=>whnf
  refine p0.mono ?_;rintro o T ⟨rfl,rfl⟩;conv=>whnf
  refine hK3 _ _ ?_;clear hK3 hQ3 K3;refine awp_seq2 fun K3 hK3 hQ3=>?_
  conv=>whnf
  refine⟨_,⟨by omega,gb⟩,?_⟩
  conv=>whnf
  refine p1.mono ?_;rintro o T ⟨rfl,rfl⟩;conv=>whnf
  refine hK3 _ _ ?_;clear hK3 hQ3 K3;refine⟨[],(.free 0 (.free 2 (.one 1 (.free 3 (.free 4 (.free 5 (.free 6 (.free 7 (.free 8 (.free 9 (.free 10 (.free 11 (.free 12 (.free 13 (.free 14 (.free 15 (.free 16 (.free 17 (.one 18 (.free 19 (.free 20 .done)) .none)))))))))))))))) .none))),_,by decide +kernel,?_,fun _ _ h=>⟨_,.inl rfl,h⟩⟩
  conv=>whnf
  refine hnum.mono ?_;rintro o T ⟨rfl,rfl⟩;conv=>whnf
  rw[show(er != er)=false from bne_self_eq_false _];conv=>whnf
  rw[show(!decide (tx=tx))=false from by simp]
  conv=>whnf
  refine⟨_,⟨by omega,gb⟩,?_⟩
  conv=>whnf
  refine⟨_,⟨by omega,ga⟩,?_⟩
  conv=>whnf
  refine p3.mono ?_;rintro o T ⟨rfl,rfl⟩;conv=>whnf
  refine hK2 _ _ ?_;clear hK2 hQ2 K2;conv=>whnf
  exact⟨i+1,⟨⟨rfl,rfl⟩,rfl,⟨rfl,rfl⟩,congrArg _ w1,trivial⟩,⟨_,St.leW_refl _,rfl,hlt⟩,by show 2*l.length-(i+1)<2*l.length-i;omega⟩
 ·conv=>whnf
  refine hQ2 _ _ _ (by simp) ?_
  clear hK2 hQ2 K2;conv=>whnf
  refine hK _ _ ?_;clear hK hQ K;refine awp_seq2 fun K hK hQ=>?_
  conv=>whnf
  -- the second round
  refine⟨⟨Nat,fun i=>[(4,.ref b4 0),(5,.sl .any 10 (rowsW ls)),(12,.int .i64 (i:Int))],
   fun i S1=>(∃ T,St.le S T∧(∀ y∈ls,OkLW S T Kn y.1 y.2.1 y.2.2)∧Rm T Kn S1 b4 (0+4*l.length+1))∧i≤ls.length,fun i=>ls.length-i⟩,
   ⟨0,⟨rfl,⟨rfl,rfl⟩,rfl,trivial⟩,_,St.leW_refl _,⟨T0,St.le_trans hle3 hT0,fun y hy=>?_,hR⟩,Nat.zero_le _⟩,?_⟩
  ·have h1:=(hSt y hy).ok (hint y.1 (by rw[← hls];exact List.mem_map.2 ⟨y,hy,rfl⟩))
   exact⟨St.le_none hle3 h1.l0,St.le_none hle3 h1.i0,h1.lk,h1.ik,h1.l,h1.i⟩
  rintro(i:Nat) S2 ⟨⟨T1,hT1,hok1,hR1⟩,hi2⟩;refine awp_seq2 fun K2 hK2 hQ2=>?_
  conv=>whnf
  intro _;conv=>whnf
  refine split_of (fun hlt2=>?_) (fun hlt2=>?_)
  ·have hlt2:i<ls.length:=by have:=of_decide_eq_true hlt2;rw[rowsW_len] at this;omega
   have gb:(rowsW ls)[(i:Int).toNat]? = some (rowW ls[i].1 ls[i].2.1 ls[i].2.2):=by simp[rowsW,hlt2]
   have hy:ls[i]∈ls:=List.getElem_mem hlt2
   generalize ls[i]=y at *;obtain⟨v,bL,bI⟩:=y;dsimp only at gb;have hvl:v∈l:=by rw[← hls];exact List.mem_map.2 ⟨_,hy,rfl⟩
   obtain⟨hv1,hv2,hv3,hv4⟩:=hst v hvl;have hvi:=hint v hvl;have w1:IntKind.i64.wrap ((i:Int)+1)=((i+1:Nat):Int):=wrap_nat (by omega)
   unfold rowW at gb;conv=>whnf
   refine hK2 _ _ ?_;clear hK2 hQ2 K2;refine awp_seq2 fun K2 hK2 hQ2=>?_
   refine awp_blk ?_;refine awp_seq2 fun K3 hK3 hQ3=>?_
   conv=>whnf
   -- the numbers
   refine⟨⟨Nat,fun j=>[(4,.ref b4 0),(5,.sl .any 10 (rowsW ls)),(12,.int .i64 (i:Int)),(13,.int .i64 (j:Int))],
    fun j S3=>(∃ T,St.le S T∧(∀ y∈ls,OkLW S T Kn y.1 y.2.1 y.2.2)∧Rm T Kn S3 b4 (0+4*l.length+1))∧j≤v.lits.length,fun j=>v.lits.length-j⟩,
    ⟨0,⟨rfl,⟨rfl,rfl⟩,rfl,rfl,trivial⟩,_,St.leW_refl _,⟨T1,hT1,hok1,hR1⟩,Nat.zero_le _⟩,?_⟩
   rintro(j:Nat) S3 ⟨⟨T2,hT2,hok2,hR2⟩,hj⟩;refine awp_seq2 fun K4 hK4 hQ4=>?_
   conv=>whnf
   refine⟨_,⟨by omega,gb⟩,?_⟩
   conv=>whnf
   refine split_of (fun hlt3=>?_) (fun hlt3=>?_)
   ·have hlt3:j<v.lits.length:=by have:=of_decide_eq_true hlt3;omega
    have w2:IntKind.i64.wrap ((j:Int)+1)=((j+1:Nat):Int):=wrap_nat (by have:=hv2.lits.1;omega)
    obtain⟨L,c1,e1,e2,k1⟩:=(hok2 _ hy).l;have hlk:=(hok2 _ hy).lk;dsimp only at e1 k1 hlk;obtain⟨junk,j1,j2,j3,j4,j5⟩:=k1;have gL:((rowsI L).flatten++((mks mkI 4).flatten++junk))[0+(j:Int).toNat*1]? = some (.int .i64 L[j]):=by
     rw[rowsI_flat1,show 0+(j:Int).toNat*1=j by omega,List.getElem?_append_left (by rw[List.length_map];omega)]
     simp[show j<L.length by omega]
    have j1':=hR2.le _ _ j1
    have hclen:=Has.len mkI_len (rowsI_one L) 4 junk
    rw[rowsI_len] at hclen;generalize (rowsI L).flatten++((mks mkI 4).flatten++junk)=cells at *;have hzk:okI (IntKind.i64.wrap (0-L[j])):=wrap_okI _;generalize L[j]=z0 at *;conv=>whnf
    refine hK4 _ _ ?_;clear hK4 hQ4 K4;refine awp_seq2 fun K4 hK4 hQ4=>?_
    refine awp_blk ?_;refine⟨[],(.free 0 (.free 1 (.free 2 (.free 3 (.free 4 (.free 5 (.free 6 (.free 7 (.free 8 (.free 9 (.free 10 (.free 11 (.free 12 (.free 13 (.free 14 (.free 15 (.one 16 .done .none))))))))))))))))),_,by decide +kernel,?_,fun _ _ h=>⟨_,.inl rfl,h⟩⟩
    conv=>whnf
    refine⟨_,⟨by omega,gb⟩,?_⟩
    conv=>whnf
    refine⟨_,⟨by omega,gb⟩,?_⟩
    conv=>whnf
    refine⟨⟨by omega,by omega⟩,?_⟩
    conv=>whnf
    refine⟨_,_,j1',aPart_cell rfl gL ?_⟩;conv=>whnf
    refine⟨⟨by omega,by omega⟩,?_⟩
    conv=>whnf
    refine⟨_,_,j1',?_⟩;rw[when_iff,forceL_eq];refine⟨Nat.ble_eq_true_of_le (by show 0+(j:Int).toNat*1+1≤_;omega),?_⟩
    conv=>whnf
    refine hK4 _ _ ?_;clear hK4 hQ4 K4;conv=>whnf
    exact⟨j+1,⟨rfl,⟨rfl,rfl⟩,rfl,congrArg _ w2,trivial⟩,⟨_,St.leW_refl _,⟨_,St.le_upd hT2 (hok2 _ hy).l0 _,fun y' hy'=>(hok2 y' hy').writeI j1 (by omega) hzk,hR2.write j1 (by omega) _⟩,hlt3⟩,by show v.lits.length-(j+1)<v.lits.length-j;omega⟩
   ·conv=>whnf
    refine hQ4 _ _ _ (by simp) ?_
    clear hK4 hQ4 K4;conv=>whnf
    refine hK3 _ _ ?_;clear hK3 hQ3 K3;clear hT1 hok1 hR1 T1 S2;refine awp_seq2 fun K3 hK3 hQ3=>?_
    conv=>whnf
    -- the texts
    refine⟨⟨Nat,fun j=>[(4,.ref b4 0),(5,.sl .any 10 (rowsW ls)),(12,.int .i64 (i:Int)),(14,.int .i64 (j:Int))],
     fun j S3=>(∃ T,St.le S T∧(∀ y∈ls,OkLW S T Kn y.1 y.2.1 y.2.2)∧Rm T Kn S3 b4 (0+4*l.length+1)∧∃ I cap,I.length=v.ids.length∧(∀ k,k<j→I[k]? = some fiveS)∧Has 9 mkT T bI (rowsS I) 4 cap)∧j≤v.ids.length,fun j=>v.ids.length-j⟩,
     ⟨0,⟨rfl,⟨rfl,rfl⟩,rfl,rfl,trivial⟩,_,St.leW_refl _,⟨T2,hT2,hok2,hR2,?_⟩,Nat.zero_le _⟩,?_⟩
    ·obtain⟨I,c1,e1,k1⟩:=(hok2 _ hy).i;exact⟨I,c1,e1,fun k hk=>absurd hk (by omega),k1⟩
    clear hT2 hok2 hR2 T2 S3 hj hlt3 j;rintro(j:Nat) S3 ⟨⟨T2,hT2,hok2,hR2,I,c2,e1,e2,k1⟩,hj⟩;refine awp_seq2 fun K4 hK4 hQ4=>?_
    conv=>whnf
    refine⟨_,⟨by omega,gb⟩,?_⟩
    conv=>whnf
    refine split_of (fun hlt3=>?_) (fun hlt3=>?_)
    ·have hlt3:j<v.ids.length:=by have:=of_decide_eq_true hlt3;omega
     have w2:IntKind.i64.wrap ((j:Int)+1)=((j+1:Nat):Int):=wrap_nat (by have:=hv2.ids.1;omega)
     have hik:=(hok2 _ hy).ik
     dsimp only at hik;have k1':=k1;obtain⟨junk,j1,j2,j3,j4,j5⟩:=k1;have j1':=hR2.le _ _ j1;have hclen:=Has.len mkT_len (rowsS_one I) 4 junk;rw[rowsS_len] at hclen;generalize (rowsS I).flatten++((mks mkT 4).flatten++junk)=cells at *;conv=>whnf
     refine hK4 _ _ ?_;clear hK4 hQ4 K4;refine awp_seq2 fun K4 hK4 hQ4=>?_
     refine awp_blk ?_;conv=>whnf
     refine⟨_,⟨by omega,gb⟩,?_⟩
     conv=>whnf
     refine⟨⟨by omega,by omega⟩,?_⟩
     conv=>whnf
     refine⟨_,_,j1',?_⟩;rw[when_iff,forceL_eq];refine⟨Nat.ble_eq_true_of_le (by show 0+(j:Int).toNat*1+1≤_;omega),?_⟩
     conv=>whnf
     refine hK4 _ _ ?_;clear hK4 hQ4 K4;conv=>whnf
     refine⟨j+1,⟨rfl,⟨rfl,rfl⟩,rfl,congrArg _ w2,trivial⟩,⟨_,St.leW_refl _,⟨_,St.le_upd hT2 (hok2 _ hy).i0 _,fun y' hy'=>(hok2 y' hy').writeS j1 (by omega),hR2.write j1 (by omega) (.str fiveS),I.set j fiveS,c2,by rw[List.length_set];exact e1,fun k hk=>?_,?_⟩,hlt3⟩,by show v.ids.length-(j+1)<v.ids.length-j;omega⟩
     ·by_cases hkj:k=j
      ·subst hkj;rw[List.getElem?_set_self (by omega)]
      ·rw[List.getElem?_set_ne (Ne.symm hkj)];exact e2 k (by omega)
     ·rw[show rowsS (I.set j fiveS)=(rowsS I).set j [.str fiveS] from List.map_set];exact k1'.write j1 j (by rw[rowsS_len];omega) (.str fiveS)
    ·have hlt3:j=v.ids.length:=by have:=of_decide_eq_false hlt3;omega
     subst hlt3;conv=>whnf
     refine hQ4 _ _ _ (by simp) ?_
     clear hK4 hQ4 K4;conv=>whnf
     refine hK3 _ _ ?_;clear hK3 hQ3 K3;have hI:I=List.replicate v.ids.length fiveS:=by
      apply List.ext_getElem?
      intro k
      by_cases hk:k<v.ids.length
      ·rw[e2 k hk,List.getElem?_replicate,if_pos hk]
      ·rw[List.getElem?_eq_none (by omega),List.getElem?_eq_none (by rw[List.length_replicate];omega)]
     subst hI;obtain⟨L,c1,f1,f2,k2⟩:=(hok2 _ hy).l;dsimp only at f1 k2;obtain⟨s1,s2⟩:=five_small hv1 hvi f1 f2 (rfl:v.ids.length=v.ids.length);have hv':=okStep_with hv2 f1 f2 e1 (fun x hx=>by rw[(List.mem_replicate.1 hx).2];decide)
     obtain⟨p1,p2,_⟩:=prints_lent (G:=G) hG hA hR2.le k2 k1 f1 e1 hv' s1 s2;generalize (printP (withLI v L (List.replicate v.ids.length fiveS))).1=tx at *;generalize (printP (withLI v L (List.replicate v.ids.length fiveS))).2=er at *;have hnum:=num_ok (G:=G) er S3;unfold rowW at p1 p2;refine awp_seq2 fun K3 hK3 hQ3=>?_
     conv=>whnf
     refine⟨_,⟨by omega,gb⟩,?_⟩
     conv=>whnf
     refine p2.mono ?_;rintro o T ⟨rfl,rfl⟩;conv=>whnf
     refine hK3 _ _ ?_;clear hK3 hQ3 K3;refine awp_seq2 fun K3 hK3 hQ3=>?_
     conv=>whnf
     refine⟨_,⟨by omega,gb⟩,?_⟩
     conv=>whnf
     refine p1.mono ?_;rintro o T ⟨rfl,rfl⟩;conv=>whnf
     refine hK3 _ _ ?_;clear hK3 hQ3 K3;conv=>whnf
     refine hnum.mono ?_;rintro o T ⟨rfl,rfl⟩;conv=>whnf
     rw[show(er != er)=false from bne_self_eq_false _];conv=>whnf
     rw[show(!decide (tx=tx))=false from by simp]
     conv=>whnf
     refine hK2 _ _ ?_;clear hK2 hQ2 K2;conv=>whnf
     exact⟨i+1,⟨rfl,⟨rfl,rfl⟩,congrArg _ w1,trivial⟩,⟨_,St.leW_refl _,⟨T2,hT2,hok2,hR2⟩,hlt2⟩,by show ls.length-(i+1)<ls.length-i;omega⟩
  ·conv=>whnf
   refine hQ2 _ _ _ (by simp) ?_
   clear hK2 hQ2 K2;conv=>whnf
   refine hK _ _ ?_;clear hK hQ K;conv=>whnf
   refine(RHold_ok hR1 (by omega)).mono ?_
   rintro o T ⟨rfl,rfl⟩;conv=>whnf
   exact⟨_,_,⟨rfl,rfl⟩,St.le_trans hT1 hR1.le,AV.leS_refl _ _ _⟩
end Go.Proofs.YtogipknpafkfpaaGreatDoor.Aw

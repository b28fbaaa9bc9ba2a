/- Package hallmarkref8: the reader's step, one theorem for each first word (printed by gen_rb4.py). Package hallmarkref8:  -/
import Derived.Test.YtogipknpafkfpaaGreatDoorPwr16
import Derived.Test.YtogipknpafkfpaaGreatDoorPwr11
import Derived.Test.YtogipknpafkfpaaGreatDoorPwr13
import Derived.Test.YtogipknpafkfpaaGreatDoorPwr14
import Derived.Test.YtogipknpafkfpaaGreatDoorPwr12
import Derived.Test.YtogipknpafkfpaaGreatDoorPwr9
set_option linter.all false
set_option maxRecDepth 100000
namespace Go.Proofs.YtogipknpafkfpaaGreatDoor.Aw
open Go Go.RowKit
variable {G:Nat→Option (List AV)}
theorem step_del{S:St}{rb:Nat}{ws0:List ByteArray}(h:S rb=some (rdO ws0 0))(hw0:∀ w∈ws0,w.size≤9000000)(hn0:ws0.length≤9000000){w:ByteArray}(hw:w=kDel) :
 Triple P (C G) 58 [.ref rb 0,.str w] S fun o S'=>∃ v' ws' e',o=.ret (stepAV v')∧S'=S.upd rb (rdO ws' e')∧ws' <:+ ws0∧Agr v' ws' e' (tabR w ws0):=by
 obtain⟨R,hR⟩:∃ R,tabR w ws0=R:=⟨_,rfl⟩;rw[hR];refine triple_of_awp (hT G) hm Tryz.func58 rfl (by decide +kernel) rfl (by decide +kernel) (by show 2≤_;decide +kernel) rfl ?_
 refine awp_seq2 fun K hK hQ=>?_
 conv=>whnf
 intro b2 hb2;conv=>whnf
 refine hK _ _ ?_;clear hK hQ K;refine awp_seq2 fun K hK hQ=>?_
 conv=>whnf
 intro b3 hb3;conv=>whnf
 refine hK _ _ ?_;clear hK hQ K;have hE:EndS S ((S.upd b2 (.obj 54 stepZ)).upd b3 (.obj 54 stepZ)) rb b2 b3 ws0 0 stepZ:=
  ⟨St.up hb3 (St.up hb2 h),St.upd_same _ _ _,St.up hb3 (St.upd_same _ _ _),fun x p _ h2=>St.up hb3 (St.up hb2 h2),(fun e=>by rw[e,h] at hb2;cases hb2),(fun e=>by rw[e,St.up hb2 h] at hb3;cases hb3),(fun e=>by rw[e,St.upd_same] at hb3;cases hb3),hb2,St.no hb3⟩
 change awp _ _ _ _ ((S.upd b2 (.obj 54 stepZ)).upd b3 (.obj 54 stepZ)) _;generalize (S.upd b2 (.obj 54 stepZ)).upd b3 (.obj 54 stepZ)=F at *;clear hb2 hb3;refine awp_seq2 fun K hK hQ=>?_
 conv=>whnf
 rw[show decide (w=(⟨#[112,115,101,117,100,111,45,66,111,111,108,101,97,110]⟩:ByteArray))=false from decide_eq_false (show ¬ w=kHead from by rw[hw];decide)]
 conv=>whnf
 rw[show decide (w=(⟨#[102]⟩:ByteArray))=false from decide_eq_false (show ¬ w=kF from by rw[hw];decide)]
 conv=>whnf
 rw[show decide (w=(⟨#[112,111,108]⟩:ByteArray))=false from decide_eq_false (show ¬ w=kPol from by rw[hw];decide)]
 conv=>whnf
 rw[show decide (w=(⟨#[114,117,112]⟩:ByteArray))=false from decide_eq_false (show ¬ w=kRup from by rw[hw];decide)]
 conv=>whnf
 rw[show decide (w=(⟨#[101]⟩:ByteArray))=false from decide_eq_false (show ¬ w=kE from by rw[hw];decide)]
 conv=>whnf
 rw[show decide (w=(⟨#[115,111,108,105]⟩:ByteArray))=false from decide_eq_false (show ¬ w=kSoli from by rw[hw];decide)]
 conv=>whnf
 rw[show decide (w=(⟨#[115,111,108,120]⟩:ByteArray))=false from decide_eq_false (show ¬ w=kSolx from by rw[hw];decide)]
 conv=>whnf
 rw[show decide (w=(⟨#[100,101,108]⟩:ByteArray))=true from decide_eq_true hw];conv=>whnf
 unfold tabR tabG at hR;rw[if_neg (show ¬ w=kHead from by rw[hw];decide),if_neg (show ¬ w=kF from by rw[hw];decide),if_neg (show ¬ w=kPol from by rw[hw];decide),if_neg (show ¬ w=kRup from by rw[hw];decide),if_neg (show ¬ w=kSoli from by rw[hw];decide),if_neg (show ¬ w=kSolx from by rw[hw];decide),if_neg (show ¬ w=kE from by rw[hw];decide),if_pos hw] at hR
 dsimp only at hR;refine⟨_,_,hE.sv,?_⟩;conv=>whnf
 have hE2:=hE.put [.int .i64 6,.str ByteArray.empty,.nils,.nils,.str ByteArray.empty,.nils,.nils,.int .i64 0,.str ByteArray.empty,.str ByteArray.empty]
 obtain⟨oo,ho⟩:∃ o,exactG ws0 idWords=o:=⟨_,rfl⟩;have hm:=one_ok (G:=G) hE2.rd ⟨#[105,100]⟩;rw[one_wordsR,show[(⟨#[105,100]⟩:ByteArray)]=idWords from rfl,wordsR_exact,ho] at hm;have u1:oo.1 <:+ ws0:=by rw[← ho];exact exactG_suffix _ _
 obtain⟨n,hn⟩:∃ o,numR 1 oo.1 oo.2=o:=⟨_,rfl⟩;have u3:n.2.2 <:+ ws0:=by rw[← hn];exact(numR_suffix _ _ _).trans u1
 refine hm.mono ?_;rintro o T3 ⟨rfl,rfl⟩;have hE3:=hE2.rdr oo.1 oo.2;have m2:=number1_ok (G:=G) hE3.rd (fun w hw=>hw0 w (u1.mem hw)) 1 (by omega) (by omega)
 rw[hn] at m2;obtain⟨W,hW1,hW2⟩:∃ W:List ByteArray×Int×List ByteArray,(n.2.1=0→idsG n.2.2 [n.1]=W)∧(n.2.1≠0→W.2.1=n.2.1):=by
  by_cases he:n.2.1=0
  ·exact⟨_,fun _=>rfl,fun h=>absurd he h⟩
  ·exact⟨([],n.2.1,[]),fun h=>absurd h he,fun _=>rfl⟩
 have hAgr:∀ (acc:List ByteArray) (e:Int) (ws:List ByteArray),e=W.2.1→(e=0→acc=W.1∧ws=W.2.2)→Agr { zeroV with kind:=6,ids:=acc } ws e R:=by
  intro acc e ws r1 r2;rw[← hR];unfold delG;rw[ho]
  by_cases h0:oo.2=0
  ·rw[if_pos h0];rw[h0,numR_ok] at hn;rw[hn]
   by_cases h1:n.2.1=0
   ·rw[if_pos h1,hW1 h1];exact Agr.of r1 (fun h=>by
     rw[show(withIds W { zeroV with kind:=6 }).1=W.2.1 from rfl,← r1] at h;obtain⟨a,b⟩:=r2 h;exact⟨b,by rw[a];rfl⟩)
   ·rw[if_neg h1];exact Agr.of (by rw[r1];exact hW2 h1) (fun h=>absurd h h1)
  ·rw[if_neg h0];rw[numR_err h0] at hn;subst hn;exact Agr.of (by rw[r1];exact hW2 h0) (fun h=>absurd h h0)
 clear hR;have hln:(1:Nat)+n.2.2.length≤9000001:=by have:=u3.length_le;omega
 have hE4:=(hE3.rdr n.2.2 n.2.1).put [.int .i64 6,.str ByteArray.empty,.nils,.nils,.str ByteArray.empty,.nils,.sl (.acc 0) 1 (rowsS []),.int .i64 0,.str ByteArray.empty,.str ByteArray.empty]
 have n3:=hE3.n3
 generalize hBF:(F.upd b3 (.obj 54 [.int .i64 6,.str ByteArray.empty,.nils,.nils,.str ByteArray.empty,.nils,.nils,.int .i64 0,.str ByteArray.empty,.str ByteArray.empty])).upd rb (rdO oo.1 oo.2)=B at hE3 hE4 m2 ⊢;clear hBF;refine⟨[],(.free 0 (.free 2 (.one 1 (.one 3 (.one 4 (.one 5 (.free 6 (.one 7 .done .none)) .none) .none) .none) (.one 3 (.free 1 (.one 4 (.one 5 (.free 6 (.one 7 .done .none)) .none) .none)) .none)))),_,by decide +kernel,?_,fun _ _ h=>⟨_,.inl rfl,h⟩⟩
 conv=>whnf
 refine⟨?_,?_⟩
 ·refine⟨_,_,hE3.sv,?_⟩;conv=>whnf
  refine m2.mono ?_;rintro o T4 ⟨rfl,rfl⟩;conv=>whnf
  intro bb hbb;conv=>whnf
  refine⟨by show 1*16≤_;decide,?_⟩
  conv=>whnf
  intro b' c3;conv=>whnf
  have h5:=((AccOk.init (B.upd rb (rdO n.2.2 n.2.1)) 9 1 0).other hbb (.tip 9 1 1)).push (es:=[]) (m:=1) rfl (fun _=>rfl) (fun h=>absurd rfl h) c3 rfl
  refine⟨_,_,h5.le _ _ (hE3.rdr n.2.2 n.2.1).sv,?_⟩;conv=>whnf
  have h6:=h5.over (x:=b3) (hE3.rdr n.2.2 n.2.1).sv (.obj 54 [.int .i64 6,.str ByteArray.empty,.nils,.nils,.str ByteArray.empty,.nils,.sl (.acc b') 1 (rowsS [n.1]),.int .i64 0,.str ByteArray.empty,.str ByteArray.empty])
  have h7:=St.leW_upd (cs':=[.int .i64 6,.str ByteArray.empty,.nils,.nils,.str ByteArray.empty,.nils,.sl (.acc b') 1 (rowsS [n.1]),.int .i64 0,.str ByteArray.empty,.str ByteArray.empty]) (St.upd_same (((B.upd rb (rdO n.2.2 n.2.1)).upd bb (.tip 9 1 1)).upd b' (.tip 9 1 1)) b3 (.obj 54 [.int .i64 6,.str ByteArray.empty,.nils,.nils,.str ByteArray.empty,.nils,.sl (.own b') 1 [[.str n.1]],.int .i64 0,.str ByteArray.empty,.str ByteArray.empty])) ⟨rfl,rfl,rfl,rfl,rfl,rfl,⟨by simp,rfl,rfl,rfl⟩,rfl,rfl,rfl,trivial⟩
  rw[St.upd_upd] at h7;have n3:=hE3.n3;refine⟨⟨List ByteArray×Int×List ByteArray×Nat,fun x=>[(0,.ref rb 0),(4,.ref b2 0),(5,.ref b3 0)],
   fun x S1=>AccOk ((B.upd rb (rdO x.1 x.2.1)).upd b3 (.obj 54 [.int .i64 6,.str ByteArray.empty,.nils,.nils,.str ByteArray.empty,.nils,.sl (.acc x.2.2.2) 1 (rowsS x.2.2.1),.int .i64 0,.str ByteArray.empty,.str ByteArray.empty])) S1 9 1 x.2.2.2 x.2.2.1.length∧x.2.2.1.length+x.1.length≤9000001∧x.1 <:+ ws0∧
    (x.2.1=0→idsG x.1 x.2.2.1=W)∧(x.2.1≠0→W.2.1=x.2.1),fun x=>x.1.length⟩,⟨(n.2.2,n.2.1,[n.1],b'),⟨rfl,rfl,rfl,trivial⟩,_,h7,h6,hln,u3,hW1,hW2⟩,?_⟩
  rintro⟨ws,e,acc,ba⟩ S1 ⟨g1,g2,g3,g4,g5⟩;dsimp only at g1 g2 g3 g4 g5;have hB1:=((hE3.rdr ws e).put [.int .i64 6,.str ByteArray.empty,.nils,.nils,.str ByteArray.empty,.nils,.sl (.acc ba) 1 (rowsS acc),.int .i64 0,.str ByteArray.empty,.str ByteArray.empty]).le g1.le;have hsw:∀ w∈ws,w.size≤9000000:=fun w hw=>hw0 w (g3.mem hw)
  have hmo:=more_ok (G:=G) hB1.rd
  cases hm:moreR ws e with
  | false=>
    rw[hm] at hmo;obtain⟨r1,r2⟩:=LoopR.ids hm g4 g5;conv=>whnf
    refine hmo.mono ?_;rintro o T2 ⟨rfl,rfl⟩;conv=>whnf
    refine hK _ _ ?_;clear hK hQ K;conv=>whnf
    refine⟨_,_,hB1.sv,?_⟩;conv=>whnf
    refine⟨_,_,hB1.rs,?_⟩;conv=>whnf
    refine⟨_,_,St.upd_same _ _ _,?_⟩;conv=>whnf
    refine⟨_,_,⟨{ zeroV with kind:=6,ids:=acc },_,_,rfl,rfl,g3,hAgr _ _ _ r1 r2⟩,hB1.fin _,⟨rfl,rfl,rfl,rfl,rfl,rfl,⟨rfl,rfl⟩,rfl,rfl,rfl,rfl⟩⟩
  | true=>
    rw[hm] at hmo;obtain⟨rfl,hne⟩:e=0∧ws≠[]:=by simpa [moreR] using hm
    obtain⟨li,hli⟩:∃ o,numR 1 ws 0=o:=⟨_,rfl⟩;obtain⟨k1,k2,k3⟩:=idsG_step hne acc hli;have u2:li.2.2 <:+ ws:=by rw[← hli];exact numR_suffix _ _ _
    have m2:=number1_ok (G:=G) hB1.rd hsw 1 (by omega) (by omega)
    rw[hli] at m2;have g1':=g1.over (x:=rb) (St.ov n3.symm (St.upd_same _ _ _)) (rdO li.2.2 li.2.1);rw[St.upd_comm n3,St.upd_upd] at g1';conv=>whnf
    refine hmo.mono ?_;rintro o T2 ⟨rfl,rfl⟩;refine⟨[],(.free 0 (.free 2 (.one 1 (.one 3 (.one 4 (.one 5 (.free 6 (.one 7 .done .none)) .none) .none) .none) (.one 3 (.free 1 (.one 4 (.one 5 (.free 6 (.one 7 .done .none)) .none) .none)) .none)))),_,by decide +kernel,?_,fun _ _ h=>⟨_,.inl rfl,h⟩⟩
    conv=>whnf
    refine⟨?_,?_⟩
    ·refine⟨_,_,hB1.sv,?_⟩;conv=>whnf
     refine m2.mono ?_;rintro o T4 ⟨rfl,rfl⟩;conv=>whnf
     intro bb hbb;have hTb:=g1'.other hbb (.tip 9 1 1);conv=>whnf
     refine⟨⟨fun hl=>?_,?_⟩,fun S4 c1 c2 b' c3=>?_⟩
     ·have:0<acc.length:=by cases acc with
       | nil=>exact absurd rfl hl
       | cons _ _=>simp
      rw[rowsS_len];exact hTb.tip this
     ·show((rowsS acc).length+1)*16≤_
      rw[rowsS_len];omega
     have h5:=hTb.push (m:=acc.length+1) (by rw[rowsS_len]) c1 c2 c3 rfl
     rw[rowsS_len];conv=>whnf
     rw[rowsS_snoc acc li.1];refine⟨_,_,h5.le _ _ (St.upd_same _ _ _),?_⟩;conv=>whnf
     have h6:=h5.over (x:=b3) (St.upd_same _ _ _) (.obj 54 [.int .i64 6,.str ByteArray.empty,.nils,.nils,.str ByteArray.empty,.nils,.sl (.acc b') 1 (rowsS (acc++[li.1])),.int .i64 0,.str ByteArray.empty,.str ByteArray.empty])
     rw[St.upd_upd] at h6;exact⟨(li.2.2,li.2.1,acc++[li.1],b'),⟨rfl,rfl,rfl,trivial⟩,⟨_,St.leW_refl _,by dsimp only;rw[List.length_append];exact h6,by simp<;>omega,u2.trans g3,fun h=>by rw[← g4 rfl];exact(k1 h).symm,fun h=>by rw[← g4 rfl];exact k2 h⟩,k3⟩
    ·refine m2.mono ?_;rintro o T4 ⟨rfl,rfl⟩;conv=>whnf
     refine⟨_,_,St.ov n3 hB1.sv,?_⟩;conv=>whnf
     intro bb hbb;have hTb:=g1'.other hbb (.tip 9 1 1);conv=>whnf
     refine⟨⟨fun hl=>?_,?_⟩,fun S4 c1 c2 b' c3=>?_⟩
     ·have:0<acc.length:=by cases acc with
       | nil=>exact absurd rfl hl
       | cons _ _=>simp
      rw[rowsS_len];exact hTb.tip this
     ·show((rowsS acc).length+1)*16≤_
      rw[rowsS_len];omega
     have h5:=hTb.push (m:=acc.length+1) (by rw[rowsS_len]) c1 c2 c3 rfl
     rw[rowsS_len];conv=>whnf
     rw[rowsS_snoc acc li.1];refine⟨_,_,h5.le _ _ (St.upd_same _ _ _),?_⟩;conv=>whnf
     have h6:=h5.over (x:=b3) (St.upd_same _ _ _) (.obj 54 [.int .i64 6,.str ByteArray.empty,.nils,.nils,.str ByteArray.empty,.nils,.sl (.acc b') 1 (rowsS (acc++[li.1])),.int .i64 0,.str ByteArray.empty,.str ByteArray.empty])
     rw[St.upd_upd] at h6;exact⟨(li.2.2,li.2.1,acc++[li.1],b'),⟨rfl,rfl,rfl,trivial⟩,⟨_,St.leW_refl _,by dsimp only;rw[List.length_append];exact h6,by simp<;>omega,u2.trans g3,fun h=>by rw[← g4 rfl];exact(k1 h).symm,fun h=>by rw[← g4 rfl];exact k2 h⟩,k3⟩
 ·refine m2.mono ?_;rintro o T4 ⟨rfl,rfl⟩;conv=>whnf
  refine⟨_,_,(hE3.rdr n.2.2 n.2.1).sv,?_⟩;conv=>whnf
  intro bb hbb;conv=>whnf
  refine⟨by show 1*16≤_;decide,?_⟩
  conv=>whnf
  intro b' c3;conv=>whnf
  have h5:=((AccOk.init (B.upd rb (rdO n.2.2 n.2.1)) 9 1 0).other hbb (.tip 9 1 1)).push (es:=[]) (m:=1) rfl (fun _=>rfl) (fun h=>absurd rfl h) c3 rfl
  refine⟨_,_,h5.le _ _ (hE3.rdr n.2.2 n.2.1).sv,?_⟩;conv=>whnf
  have h6:=h5.over (x:=b3) (hE3.rdr n.2.2 n.2.1).sv (.obj 54 [.int .i64 6,.str ByteArray.empty,.nils,.nils,.str ByteArray.empty,.nils,.sl (.acc b') 1 (rowsS [n.1]),.int .i64 0,.str ByteArray.empty,.str ByteArray.empty])
  have h7:=St.leW_upd (cs':=[.int .i64 6,.str ByteArray.empty,.nils,.nils,.str ByteArray.empty,.nils,.sl (.acc b') 1 (rowsS [n.1]),.int .i64 0,.str ByteArray.empty,.str ByteArray.empty]) (St.upd_same (((B.upd rb (rdO n.2.2 n.2.1)).upd bb (.tip 9 1 1)).upd b' (.tip 9 1 1)) b3 (.obj 54 [.int .i64 6,.str ByteArray.empty,.nils,.nils,.str ByteArray.empty,.nils,.sl (.own b') 1 [[.str n.1]],.int .i64 0,.str ByteArray.empty,.str ByteArray.empty])) ⟨rfl,rfl,rfl,rfl,rfl,rfl,⟨by simp,rfl,rfl,rfl⟩,rfl,rfl,rfl,trivial⟩
  rw[St.upd_upd] at h7;have n3:=hE3.n3;refine⟨⟨List ByteArray×Int×List ByteArray×Nat,fun x=>[(0,.ref rb 0),(4,.ref b2 0),(5,.ref b3 0)],
   fun x S1=>AccOk ((B.upd rb (rdO x.1 x.2.1)).upd b3 (.obj 54 [.int .i64 6,.str ByteArray.empty,.nils,.nils,.str ByteArray.empty,.nils,.sl (.acc x.2.2.2) 1 (rowsS x.2.2.1),.int .i64 0,.str ByteArray.empty,.str ByteArray.empty])) S1 9 1 x.2.2.2 x.2.2.1.length∧x.2.2.1.length+x.1.length≤9000001∧x.1 <:+ ws0∧
    (x.2.1=0→idsG x.1 x.2.2.1=W)∧(x.2.1≠0→W.2.1=x.2.1),fun x=>x.1.length⟩,⟨(n.2.2,n.2.1,[n.1],b'),⟨rfl,rfl,rfl,trivial⟩,_,h7,h6,hln,u3,hW1,hW2⟩,?_⟩
  rintro⟨ws,e,acc,ba⟩ S1 ⟨g1,g2,g3,g4,g5⟩;dsimp only at g1 g2 g3 g4 g5;have hB1:=((hE3.rdr ws e).put [.int .i64 6,.str ByteArray.empty,.nils,.nils,.str ByteArray.empty,.nils,.sl (.acc ba) 1 (rowsS acc),.int .i64 0,.str ByteArray.empty,.str ByteArray.empty]).le g1.le;have hsw:∀ w∈ws,w.size≤9000000:=fun w hw=>hw0 w (g3.mem hw)
  have hmo:=more_ok (G:=G) hB1.rd
  cases hm:moreR ws e with
  | false=>
    rw[hm] at hmo;obtain⟨r1,r2⟩:=LoopR.ids hm g4 g5;conv=>whnf
    refine hmo.mono ?_;rintro o T2 ⟨rfl,rfl⟩;conv=>whnf
    refine hK _ _ ?_;clear hK hQ K;conv=>whnf
    refine⟨_,_,hB1.sv,?_⟩;conv=>whnf
    refine⟨_,_,hB1.rs,?_⟩;conv=>whnf
    refine⟨_,_,St.upd_same _ _ _,?_⟩;conv=>whnf
    refine⟨_,_,⟨{ zeroV with kind:=6,ids:=acc },_,_,rfl,rfl,g3,hAgr _ _ _ r1 r2⟩,hB1.fin _,⟨rfl,rfl,rfl,rfl,rfl,rfl,⟨rfl,rfl⟩,rfl,rfl,rfl,rfl⟩⟩
  | true=>
    rw[hm] at hmo;obtain⟨rfl,hne⟩:e=0∧ws≠[]:=by simpa [moreR] using hm
    obtain⟨li,hli⟩:∃ o,numR 1 ws 0=o:=⟨_,rfl⟩;obtain⟨k1,k2,k3⟩:=idsG_step hne acc hli;have u2:li.2.2 <:+ ws:=by rw[← hli];exact numR_suffix _ _ _
    have m2:=number1_ok (G:=G) hB1.rd hsw 1 (by omega) (by omega)
    rw[hli] at m2;have g1':=g1.over (x:=rb) (St.ov n3.symm (St.upd_same _ _ _)) (rdO li.2.2 li.2.1);rw[St.upd_comm n3,St.upd_upd] at g1';conv=>whnf
    refine hmo.mono ?_;rintro o T2 ⟨rfl,rfl⟩;refine⟨[],(.free 0 (.free 2 (.one 1 (.one 3 (.one 4 (.one 5 (.free 6 (.one 7 .done .none)) .none) .none) .none) (.one 3 (.free 1 (.one 4 (.one 5 (.free 6 (.one 7 .done .none)) .none) .none)) .none)))),_,by decide +kernel,?_,fun _ _ h=>⟨_,.inl rfl,h⟩⟩
    conv=>whnf
    refine⟨?_,?_⟩
    ·refine⟨_,_,hB1.sv,?_⟩;conv=>whnf
     refine m2.mono ?_;rintro o T4 ⟨rfl,rfl⟩;conv=>whnf
     intro bb hbb;have hTb:=g1'.other hbb (.tip 9 1 1);conv=>whnf
     refine⟨⟨fun hl=>?_,?_⟩,fun S4 c1 c2 b' c3=>?_⟩
     ·have:0<acc.length:=by cases acc with
       | nil=>exact absurd rfl hl
       | cons _ _=>simp
      rw[rowsS_len];exact hTb.tip this
     ·show((rowsS acc).length+1)*16≤_
      rw[rowsS_len];omega
     have h5:=hTb.push (m:=acc.length+1) (by rw[rowsS_len]) c1 c2 c3 rfl
     rw[rowsS_len];conv=>whnf
     rw[rowsS_snoc acc li.1];refine⟨_,_,h5.le _ _ (St.upd_same _ _ _),?_⟩;conv=>whnf
     have h6:=h5.over (x:=b3) (St.upd_same _ _ _) (.obj 54 [.int .i64 6,.str ByteArray.empty,.nils,.nils,.str ByteArray.empty,.nils,.sl (.acc b') 1 (rowsS (acc++[li.1])),.int .i64 0,.str ByteArray.empty,.str ByteArray.empty])
     rw[St.upd_upd] at h6;exact⟨(li.2.2,li.2.1,acc++[li.1],b'),⟨rfl,rfl,rfl,trivial⟩,⟨_,St.leW_refl _,by dsimp only;rw[List.length_append];exact h6,by simp<;>omega,u2.trans g3,fun h=>by rw[← g4 rfl];exact(k1 h).symm,fun h=>by rw[← g4 rfl];exact k2 h⟩,k3⟩
    ·refine m2.mono ?_;rintro o T4 ⟨rfl,rfl⟩;conv=>whnf
     refine⟨_,_,St.ov n3 hB1.sv,?_⟩;conv=>whnf
     intro bb hbb;have hTb:=g1'.other hbb (.tip 9 1 1);conv=>whnf
     refine⟨⟨fun hl=>?_,?_⟩,fun S4 c1 c2 b' c3=>?_⟩
     ·have:0<acc.length:=by cases acc with
       | nil=>exact absurd rfl hl
       | cons _ _=>simp
      rw[rowsS_len];exact hTb.tip this
     ·show((rowsS acc).length+1)*16≤_
      rw[rowsS_len];omega
     have h5:=hTb.push (m:=acc.length+1) (by rw[rowsS_len]) c1 c2 c3 rfl
     rw[rowsS_len];conv=>whnf
     rw[rowsS_snoc acc li.1];refine⟨_,_,h5.le _ _ (St.upd_same _ _ _),?_⟩;conv=>whnf
     have h6:=h5.over (x:=b3) (St.upd_same _ _ _) (.obj 54 [.int .i64 6,.str ByteArray.empty,.nils,.nils,.str ByteArray.empty,.nils,.sl (.acc b') 1 (rowsS (acc++[li.1])),.int .i64 0,.str ByteArray.empty,.str ByteArray.empty])
     rw[St.upd_upd] at h6;exact⟨(li.2.2,li.2.1,acc++[li.1],b'),⟨rfl,rfl,rfl,trivial⟩,⟨_,St.leW_refl _,by dsimp only;rw[List.length_append];exact h6,by simp<;>omega,u2.trans g3,fun h=>by rw[← g4 rfl];exact(k1 h).symm,fun h=>by rw[← g4 rfl];exact k2 h⟩,k3⟩
theorem step_other{S:St}{rb:Nat}{ws0:List ByteArray}(h:S rb=some (rdO ws0 0))(hw0:∀ w∈ws0,w.size≤9000000)(hn0:ws0.length≤9000000){w:ByteArray}(hw:¬ (w=kHead∨w=kF∨w=kPol∨w=kRup∨w=kSoli∨w=kSolx∨w=kE∨w=kDel∨w=kStar∨w=kOut∨w=kConc∨w=kEnd)) :
 Triple P (C G) 58 [.ref rb 0,.str w] S fun o S'=>∃ v' ws' e',o=.ret (stepAV v')∧S'=S.upd rb (rdO ws' e')∧ws' <:+ ws0∧Agr v' ws' e' (tabR w ws0):=by
 obtain⟨R,hR⟩:∃ R,tabR w ws0=R:=⟨_,rfl⟩;rw[hR];refine triple_of_awp (hT G) hm Tryz.func58 rfl (by decide +kernel) rfl (by decide +kernel) (by show 2≤_;decide +kernel) rfl ?_
 refine awp_seq2 fun K hK hQ=>?_
 conv=>whnf
 intro b2 hb2;conv=>whnf
 refine hK _ _ ?_;clear hK hQ K;refine awp_seq2 fun K hK hQ=>?_
 conv=>whnf
 intro b3 hb3;conv=>whnf
 refine hK _ _ ?_;clear hK hQ K;have hE:EndS S ((S.upd b2 (.obj 54 stepZ)).upd b3 (.obj 54 stepZ)) rb b2 b3 ws0 0 stepZ:=
  ⟨St.up hb3 (St.up hb2 h),St.upd_same _ _ _,St.up hb3 (St.upd_same _ _ _),fun x p _ h2=>St.up hb3 (St.up hb2 h2),(fun e=>by rw[e,h] at hb2;cases hb2),(fun e=>by rw[e,St.up hb2 h] at hb3;cases hb3),(fun e=>by rw[e,St.upd_same] at hb3;cases hb3),hb2,St.no hb3⟩
 change awp _ _ _ _ ((S.upd b2 (.obj 54 stepZ)).upd b3 (.obj 54 stepZ)) _;generalize (S.upd b2 (.obj 54 stepZ)).upd b3 (.obj 54 stepZ)=F at *;clear hb2 hb3;refine awp_seq2 fun K hK hQ=>?_
 conv=>whnf
 simp only[not_or] at hw;obtain⟨n0,n1,n2,n3,n4,n5,n6,n7,n8,n9,n10,n11⟩:=hw;rw[show decide (w=(⟨#[112,115,101,117,100,111,45,66,111,111,108,101,97,110]⟩:ByteArray))=false from decide_eq_false (show ¬ w=kHead from n0)];conv=>whnf
 rw[show decide (w=(⟨#[102]⟩:ByteArray))=false from decide_eq_false (show ¬ w=kF from n1)];conv=>whnf
 rw[show decide (w=(⟨#[112,111,108]⟩:ByteArray))=false from decide_eq_false (show ¬ w=kPol from n2)];conv=>whnf
 rw[show decide (w=(⟨#[114,117,112]⟩:ByteArray))=false from decide_eq_false (show ¬ w=kRup from n3)];conv=>whnf
 rw[show decide (w=(⟨#[101]⟩:ByteArray))=false from decide_eq_false (show ¬ w=kE from n6)];conv=>whnf
 rw[show decide (w=(⟨#[115,111,108,105]⟩:ByteArray))=false from decide_eq_false (show ¬ w=kSoli from n4)];conv=>whnf
 rw[show decide (w=(⟨#[115,111,108,120]⟩:ByteArray))=false from decide_eq_false (show ¬ w=kSolx from n5)];conv=>whnf
 rw[show decide (w=(⟨#[100,101,108]⟩:ByteArray))=false from decide_eq_false (show ¬ w=kDel from n7)];conv=>whnf
 rw[show decide (w=(⟨#[111,117,116,112,117,116]⟩:ByteArray))=false from decide_eq_false (show ¬ w=kOut from n9)];conv=>whnf
 rw[show decide (w=(⟨#[99,111,110,99,108,117,115,105,111,110]⟩:ByteArray))=false from decide_eq_false (show ¬ w=kConc from n10)];conv=>whnf
 rw[show decide (w=(⟨#[101,110,100]⟩:ByteArray))=false from decide_eq_false (show ¬ w=kEnd from n11)];conv=>whnf
 unfold tabR tabG at hR;rw[if_neg n0,if_neg n1,if_neg n2,if_neg n3,if_neg n4,if_neg n5,if_neg n6,if_neg n7,if_neg n8,if_neg n9,if_neg n10,if_neg n11] at hR;dsimp only at hR;refine(rfail_ok (G:=G) hE.rd 80).mono ?_;rw[if_pos rfl];rintro o T3 ⟨rfl,rfl⟩;have hE2:=hE.rdr ws0 80;conv=>whnf
 refine hK _ _ ?_;clear hK hQ K;conv=>whnf
 refine⟨_,_,hE2.sv,?_⟩;conv=>whnf
 refine⟨_,_,hE2.rs,?_⟩;conv=>whnf
 refine⟨_,_,St.upd_same _ _ _,?_⟩;conv=>whnf
 refine⟨_,_,⟨zeroV,_,_,rfl,rfl,List.suffix_refl _,by rw[← hR];exact Agr.of rfl (fun h=>absurd (show(80:Int)=0 from h) (by decide))⟩,hE2.fin _,⟨rfl,rfl,rfl,rfl,rfl,rfl,rfl,rfl,rfl,rfl,rfl⟩⟩
theorem step_ok1{S:St}{rb:Nat}{ws0:List ByteArray}(h:S rb=some (rdO ws0 0))(hw0:∀ w∈ws0,w.size≤9000000)(hn0:ws0.length≤9000000){w:ByteArray}(hw:w≠kStar) :
 Triple P (C G) 58 [.ref rb 0,.str w] S fun o S'=>∃ v' ws' e',o=.ret (stepAV v')∧S'=S.upd rb (rdO ws' e')∧ws' <:+ ws0∧Agr v' ws' e' (tabR w ws0):=by
 by_cases h_head:w=kHead
 ·exact step_head h hw0 hn0 h_head
 by_cases h_count:w=kF
 ·exact step_count h hw0 hn0 h_count
 by_cases h_pol:w=kPol
 ·exact step_pol h hw0 hn0 h_pol
 by_cases h_rup:w=kRup
 ·exact step_rup h hw0 hn0 h_rup
 by_cases h_soli:w=kSoli
 ·exact step_soli h hw0 hn0 h_soli
 by_cases h_solx:w=kSolx
 ·exact step_solx h hw0 hn0 h_solx
 by_cases h_same:w=kE
 ·exact step_same h hw0 hn0 h_same
 by_cases h_del:w=kDel
 ·exact step_del h hw0 hn0 h_del
 by_cases h_output:w=kOut
 ·exact step_output h hw0 hn0 h_output
 by_cases h_concl:w=kConc
 ·exact step_concl h hw0 hn0 h_concl
 by_cases h_last:w=kEnd
 ·exact step_last h hw0 hn0 h_last
 exact step_other h hw0 hn0 (by simp only[not_or];exact⟨h_head,h_count,h_pol,h_rup,h_soli,h_solx,h_same,h_del,hw,h_output,h_concl,h_last⟩)
theorem Parse_ref_ok(s:ByteArray)(hs:s.size≤8999999)(S:St) :
 Triple P (C G) 21 [.str s] S fun o S'=>o=.ret (.tu [stepAV (parseP s).1,.int .i64 (parseP s).2])∧S'=S:=by
 have hwo:OkW (wordsL s):=⟨fun w hw=>Nat.le_trans (wordsL_size s w hw) (by omega),Nat.le_trans (wordsL_len s) (by omega)⟩
 have hwd:=Words_ok (G:=G) s (by omega)
 unfold parseP;generalize wordsL s=ws at *;obtain⟨PP,hPP⟩:∃ p,parseW ws=p:=⟨_,rfl⟩;rw[hPP];refine triple_of_awp (hT G) hm Tryz.func21 rfl (by decide +kernel) rfl (by decide +kernel) (by show 1≤_;decide +kernel) rfl ?_
 refine awp_seq2 fun K hK hQ=>?_
 conv=>whnf
 intro b2 hb2;conv=>whnf
 refine hK _ _ ?_;clear hK hQ K;refine awp_seq2 fun K hK hQ=>?_
 conv=>whnf
 refine(hwd _).mono ?_;rintro o T ⟨rfl,rfl⟩;conv=>whnf
 intro b4 hb4;conv=>whnf
 refine hK _ _ ?_;clear hK hQ K hwd;have q2:((S.upd b2 (.obj 54 stepZ)).upd b4 (rdO ws 0)) b2=some (.obj 54 stepZ):=St.up (p:=rdO ws 0) hb4 (St.upd_same S b2 (.obj 54 stepZ));have q4:=St.upd_same (S.upd b2 (.obj 54 stepZ)) b4 (rdO ws 0);have n42:b4≠b2:=fun e=>by rw[e,St.upd_same] at hb4;cases hb4
 have hle:∀ X,St.le S (((S.upd b2 (.obj 54 stepZ)).upd b4 (rdO ws 0)).upd b2 X):=fun X x p hx=>by
  have h2:x≠b2:=fun e=>by rw[e,hb2] at hx;cases hx
  have h4:x≠b4:=fun e=>by rw[e,St.no hb4] at hx;cases hx
  rw[St.upd_ne _ _ _ _ h2,St.upd_ne _ _ _ _ h4,St.upd_ne _ _ _ _ h2];exact hx
 have hle4:∀ ws' e' X,St.le S ((((S.upd b2 (.obj 54 stepZ)).upd b4 (rdO ws 0)).upd b4 (rdO ws' e')).upd b2 X):=fun ws' e' X x p hx=>by
  have h2:x≠b2:=fun e=>by rw[e,hb2] at hx;cases hx
  have h4:x≠b4:=fun e=>by rw[e,St.no hb4] at hx;cases hx
  rw[St.upd_ne _ _ _ _ h2,St.upd_ne _ _ _ _ h4,St.upd_ne _ _ _ _ h4,St.upd_ne _ _ _ _ h2];exact hx
 change awp _ _ _ _ ((S.upd b2 (.obj 54 stepZ)).upd b4 (rdO ws 0)) _;generalize (S.upd b2 (.obj 54 stepZ)).upd b4 (rdO ws 0)=T at *
 cases ws with
 | nil=>
   conv=>whnf
   refine⟨_,_,q4,?_⟩;conv=>whnf
   intro _;conv=>whnf
   refine⟨_,_,q2,?_⟩;conv=>whnf
   refine⟨_,_,St.upd_same _ _ _,?_⟩;conv=>whnf
   have hP1:PP=({ zeroV with kind:=7 },0):=hPP.symm
   subst hP1;rw[if_pos rfl];refine⟨_,_,⟨rfl,rfl⟩,hle _,⟨⟨rfl,rfl,rfl,rfl,rfl,rfl,rfl,rfl,rfl,rfl,rfl⟩,rfl,rfl⟩⟩
 | cons w l=>
   have ht:=rtake_ok1 (G:=G) q4
   unfold takeR at ht;rw[if_pos rfl] at ht;dsimp only at ht;have ga:(rowsS (w::l))[(0:Int).toNat]? = some [.str w]:=rfl;have hpos:(((rowsS (w::l)).length:Int) == 0)=false:=beq_false_of_ne (by rw[rowsS_len];simp<;>omega)
   unfold rdO at q4;generalize rowsS (w::l)=rr at *;refine awp_seq2 fun K2 hK2 hQ2=>?_
   refine awp_seq2 fun K hK hQ=>?_
   refine awp_region ?_;refine aOps_cut 7 fun K' hK'=>?_
   conv=>whnf
   refine⟨_,_,q4,?_⟩;conv=>whnf
   intro _;conv=>whnf
   rw[hpos];conv=>whnf
   refine hK' _ _ ?_;clear hK' K';refine aOps_cut 4 fun K' hK'=>?_
   conv=>whnf
   refine⟨_,_,q4,?_⟩;conv=>whnf
   refine hK' _ _ ?_;clear hK' K';conv=>whnf
   refine⟨_,⟨by decide,ga⟩,?_⟩
   conv=>whnf
   refine hK _ _ ?_;clear hK hQ K
   by_cases hst:w=kStar
   ·conv=>whnf
    rw[show decide (w=(⟨#[42]⟩:ByteArray))=true from decide_eq_true hst];subst hst;conv=>whnf
    refine⟨_,_,q2,?_⟩;conv=>whnf
    refine hQ2 _ _ _ (by simp) ?_
    conv=>whnf
    refine⟨_,_,St.upd_same _ _ _,?_⟩;conv=>whnf
    have htk:tabG kStar=some noteG:=by
     unfold tabG;rw[if_neg (by decide),if_neg (by decide),if_neg (by decide),if_neg (by decide),if_neg (by decide),if_neg (by decide),if_neg (by decide),if_neg (by decide),if_pos rfl]
    have hP1:PP=({ zeroV with kind:=7 },0):=by
     rw[← hPP,parseW_tabR];unfold tabR;rw[htk];rfl
    subst hP1;rw[if_pos rfl];refine⟨_,_,⟨rfl,rfl⟩,hle _,?_⟩;exact⟨⟨rfl,rfl,rfl,rfl,rfl,rfl,rfl,rfl,rfl,rfl,rfl⟩,rfl,rfl⟩
   ·conv=>whnf
    rw[show decide (w=(⟨#[42]⟩:ByteArray))=false from decide_eq_false hst];conv=>whnf
    refine hK2 _ _ ?_;clear hK2 hQ2 K2;rw[parseW_tabR] at hPP;have hsl:∀ y∈l,y.size≤9000000:=fun y hy=>hwo.1 y (by simp[hy])
    have hln:l.length≤9000000:=by have:=hwo.2;simp at this;omega
    have p4:=St.upd_same T b4 (rdO l 0)
    have hs:=step_ok1 (G:=G) p4 hsl hln hst
    rw[hPP.symm];conv=>whnf
    refine ht.mono ?_;rintro o T2 ⟨rfl,rfl⟩;conv=>whnf
    refine hs.mono ?_;rintro o T2 ⟨v',ws',e',rfl,rfl,sf,hag⟩;rw[St.upd_upd];have hr:=rest_ok (G:=G) (St.upd_same T b4 (rdO ws' e'));obtain⟨hag1,hag2⟩:=hag;rw[hag1,St.upd_upd] at hr;generalize hFF:finG (tabR w l)=FF at *;generalize hRR:tabR w l=RR at *;conv=>whnf
    intro b7 hb7;conv=>whnf
    refine⟨_,_,St.upd_same _ _ _,?_⟩;conv=>whnf
    rw[St.upd_upd];have hb7':T.upd b4 (rdO ws' FF.2) b7=none:=by
     by_cases e:b7=b4
     ·subst e;rw[St.upd_same] at hb7;cases hb7
     ·rw[St.upd_ne _ _ _ _ e] at hb7 ⊢;exact hb7
    have n74:b7≠b4:=fun e=>by rw[e,St.upd_same] at hb7;cases hb7
    have n72:b7≠b2:=fun e=>by rw[e,St.ov n42.symm q2] at hb7;cases hb7
    have hr:=rest_ok (G:=G) (S:=(T.upd b4 (rdO ws' e')).upd b7 (.obj 54 [.int .i64 v'.kind,.str v'.num,.sl .any 3 (rowsO v'.ops),.sl .any 2 (rowsP v'.pieces),.str v'.bound,.sl .any 1 (rowsI v'.lits),.sl .any 1 (rowsS v'.ids),.int .i64 v'.n6,.str v'.s7,.str v'.s8])) (St.ov n74.symm (St.upd_same _ _ _))
    rw[hag1,St.upd_comm n74,St.upd_upd] at hr;refine hr.mono ?_;rintro o T2 ⟨rfl,rfl⟩;have p4:((T.upd b4 (rdO ws' FF.2)).upd b7 (.obj 54 [.int .i64 v'.kind,.str v'.num,.sl .any 3 (rowsO v'.ops),.sl .any 2 (rowsP v'.pieces),.str v'.bound,.sl .any 1 (rowsI v'.lits),.sl .any 1 (rowsS v'.ids),.int .i64 v'.n6,.str v'.s7,.str v'.s8])) b4=some (rdO ws' FF.2):=St.ov n74.symm (St.upd_same _ _ _);have p2:((T.upd b4 (rdO ws' FF.2)).upd b7 (.obj 54 [.int .i64 v'.kind,.str v'.num,.sl .any 3 (rowsO v'.ops),.sl .any 2 (rowsP v'.pieces),.str v'.bound,.sl .any 1 (rowsI v'.lits),.sl .any 1 (rowsS v'.ids),.int .i64 v'.n6,.str v'.s7,.str v'.s8])) b2=some (.obj 54 stepZ):=St.ov n72.symm (St.ov n42.symm q2);have p7:((T.upd b4 (rdO ws' FF.2)).upd b7 (.obj 54 [.int .i64 v'.kind,.str v'.num,.sl .any 3 (rowsO v'.ops),.sl .any 2 (rowsP v'.pieces),.str v'.bound,.sl .any 1 (rowsI v'.lits),.sl .any 1 (rowsS v'.ids),.int .i64 v'.n6,.str v'.s7,.str v'.s8])) b7=some (.obj 54 [.int .i64 v'.kind,.str v'.num,.sl .any 3 (rowsO v'.ops),.sl .any 2 (rowsP v'.pieces),.str v'.bound,.sl .any 1 (rowsI v'.lits),.sl .any 1 (rowsS v'.ids),.int .i64 v'.n6,.str v'.s7,.str v'.s8]):=St.upd_same _ _ _;have hle7:∀ X,St.le S (((T.upd b4 (rdO ws' FF.2)).upd b7 (.obj 54 [.int .i64 v'.kind,.str v'.num,.sl .any 3 (rowsO v'.ops),.sl .any 2 (rowsP v'.pieces),.str v'.bound,.sl .any 1 (rowsI v'.lits),.sl .any 1 (rowsS v'.ids),.int .i64 v'.n6,.str v'.s7,.str v'.s8])).upd b2 X):=fun X x p hx=>by
     by_cases h7:x=b7
     ·have:=hle4 ws' FF.2 X _ _ hx
      rw[h7,St.upd_ne _ _ _ _ n72,hb7'] at this;cases this
     ·have:=hle4 ws' FF.2 X _ _ hx
      by_cases h2:x=b2
      ·rw[h2,St.upd_same] at this ⊢;exact this
      ·rw[St.upd_ne _ _ _ _ h2] at this ⊢;rw[St.upd_ne _ _ _ _ h7];exact this
    generalize (T.upd b4 (rdO ws' FF.2)).upd b7 (.obj 54 [.int .i64 v'.kind,.str v'.num,.sl .any 3 (rowsO v'.ops),.sl .any 2 (rowsP v'.pieces),.str v'.bound,.sl .any 1 (rowsI v'.lits),.sl .any 1 (rowsS v'.ids),.int .i64 v'.n6,.str v'.s7,.str v'.s8])=T7 at *;conv=>whnf
    refine⟨_,_,p4,?_⟩;conv=>whnf
    by_cases he:FF.2=0
    ·rw[he];conv=>whnf
     refine⟨_,_,p7,?_⟩;conv=>whnf
     refine⟨_,_,p2,?_⟩;conv=>whnf
     refine⟨_,_,St.upd_same _ _ _,?_⟩;conv=>whnf
     refine⟨_,_,⟨rfl,rfl⟩,hle7 _,?_⟩;have e1:FF.1=v':=by rw[hag2 he,← hFF];rfl
     rw[if_pos rfl,e1];exact AV.leS_refl _ _ _
    ·rw[show(FF.2 != 0)=true from by simpa using he]
     conv=>whnf
     refine⟨[],(.free 0 (.free 1 (.free 2 (.free 3 (.one 4 (.one 5 (.free 6 .done) .none) (.one 5 (.free 4 (.free 6 .done)) .none)))))),_,by decide +kernel,?_,fun _ _ h=>⟨_,.inl rfl,h⟩⟩
     conv=>whnf
     refine⟨?_,?_⟩
     ·refine⟨_,_,p4,?_⟩;conv=>whnf
      refine⟨_,_,p2,?_⟩;conv=>whnf
      refine⟨_,_,St.upd_same _ _ _,?_⟩;conv=>whnf
      refine⟨_,_,⟨rfl,rfl⟩,hle7 _,?_⟩;rw[if_neg he];exact⟨⟨rfl,rfl,rfl,rfl,rfl,rfl,rfl,rfl,rfl,rfl,rfl⟩,rfl,rfl⟩
     ·refine⟨_,_,p2,?_⟩;conv=>whnf
      refine⟨_,_,St.ov n42 p4,?_⟩;conv=>whnf
      refine⟨_,_,St.upd_same _ _ _,?_⟩;conv=>whnf
      refine⟨_,_,⟨rfl,rfl⟩,hle7 _,?_⟩;rw[if_neg he];exact⟨⟨rfl,rfl,rfl,rfl,rfl,rfl,rfl,rfl,rfl,rfl,rfl⟩,rfl,rfl⟩
theorem OkStep.len{v:StepV}(h:OkStep v):LenStep v:=
 ⟨by have:=h.ops.1;omega,by have:=h.row.1;omega,by have:=h.lits.1;omega,by have:=h.ids.1;omega⟩
theorem Print_r_ok(hG:G10 G)(v:StepV)(h:OkStep v)(hl:(lineV v).size≤8999999)(S:St) :
 Triple P (C G) 9 [stepAV v] S fun o S'=>o=.ret (.tu [.str (printP v).1,.int .i64 (printP v).2])∧S'=S:=by
 have htx:=fun S=>Line_r_ok (G:=G) hG v h S
 have hpa:=fun S=>Parse_ref_ok (G:=G) (lineV v) hl S
 have hsm:=fun S=>Same_ok (G:=G) v (parseP (lineV v)).1 h.len S
 rw[printR];have hpe:parseP (lineV v)=((parseP (lineV v)).1,(parseP (lineV v)).2):=rfl;generalize lineV v=tx at *;rw[hpe];clear hpe;generalize (parseP tx).1=v2 at *;generalize (parseP tx).2=e at *;refine triple_of_awp (hT G) hm Tryz.func9 rfl (by decide +kernel) rfl (by decide +kernel) (by show 1≤_;decide +kernel) rfl ?_
 refine awp_seq2 fun K hK hQ=>?_
 conv=>whnf
 intro b1 hb1;conv=>whnf
 refine hK _ _ ?_;clear hK hQ K;have q1:=St.upd_same S b1 (.obj 54 (stepR v));have hle1:=St.le_upd' (St.le_refl S) hb1 (.obj 54 (stepR v));refine awp_seq2 fun K hK hQ=>?_
 conv=>whnf
 refine⟨_,_,q1,?_⟩;conv=>whnf
 refine(htx _).mono ?_;rintro o T ⟨rfl,rfl⟩;conv=>whnf
 refine hK _ _ ?_;clear hK hQ K;refine awp_seq2 fun K hK hQ=>?_
 conv=>whnf
 refine(hpa _).mono ?_;rintro o T ⟨rfl,rfl⟩;conv=>whnf
 intro b5 hb5;conv=>whnf
 refine⟨_,_,St.upd_same _ _ _,?_⟩;conv=>whnf
 rw[St.upd_upd];have q5:=St.upd_same (S.upd b1 (.obj 54 (stepR v))) b5 (.obj 54 (stepR v2));have q15:((S.upd b1 (.obj 54 (stepR v))).upd b5 (.obj 54 (stepR v2))) b1=some (.obj 54 (stepR v)):=St.up hb5 q1;have hle:=St.le_trans hle1 (St.le_upd' (St.le_refl _) hb5 (.obj 54 (stepR v2)));refine hK _ _ ?_;clear hK hQ K;refine awp_seq2 fun K hK hQ=>?_
 by_cases he:e=0
 ·subst he
  by_cases hv:v=v2
  ·subst hv;rw[if_pos rfl] at hK;rw[decide_eq_true rfl] at hsm;conv=>whnf
   refine⟨_,_,q15,?_⟩;conv=>whnf
   refine⟨_,_,q5,?_⟩;conv=>whnf
   refine(hsm _).mono ?_;rintro o T ⟨rfl,rfl⟩;conv=>whnf
   refine hK _ _ ?_;clear hK hQ K;conv=>whnf
   exact⟨_,_,⟨rfl,rfl⟩,hle,AV.leS_refl _ _ _⟩
  ·rw[if_neg (fun h=>hv (Prod.mk.inj h).1.symm)] at hQ
   rw[decide_eq_false hv] at hsm;conv=>whnf
   refine⟨_,_,q15,?_⟩;conv=>whnf
   refine⟨_,_,q5,?_⟩;conv=>whnf
   refine(hsm _).mono ?_;rintro o T ⟨rfl,rfl⟩;conv=>whnf
   refine hQ _ _ _ (by simp) ?_
   conv=>whnf
   exact⟨_,_,⟨rfl,rfl⟩,hle,AV.leS_refl _ _ _⟩
 ·rw[if_neg (fun h=>he (Prod.mk.inj h).2)] at hQ
  conv=>whnf
  refine split_of (fun _=>?_) (fun hh=>absurd (by simpa using hh) he)
  conv=>whnf
  refine hQ _ _ _ (by simp) ?_
  conv=>whnf
  exact⟨_,_,⟨rfl,rfl⟩,hle,AV.leS_refl _ _ _⟩
def writeRAV(r:List UInt8×Option (Nat×Int)):AV:=match r.2 with
 | none=>.tu [.str ⟨r.1.toArray⟩,.ag [.int .i64 0,.int .i64 0]]
 | some (i,c)=>.tu [.str ByteArray.empty,.ag [.int .i64 (i:Int),.int .i64 c]]
theorem Write_r_ok(hG:G10 G)(l:List StepV)(hl:l.length≤1000000)(hok:∀ v∈l,OkStep v∧(textT v).size≤8999999∧(lineV v).size≤8999999)(S:St) :
 Triple P (C G) 14 [.sl .any 10 (rowsT l)] S fun o S'=>o=.ret (writeRAV (writeL l [] 0))∧S'=S:=by
 refine triple_of_awp (hT G) hm Tryz.func14 rfl (by decide +kernel) rfl (by decide +kernel) (by show 1≤_;decide +kernel) rfl ?_
 refine awp_seq2 fun K hK hQ=>?_
 conv=>whnf
 intro b3 hb3;conv=>whnf
 refine hK _ _ ?_;clear hK hQ K;have q3:=St.upd_same S b3 (.obj 62 [.int .i64 0,.int .i64 0]);have hle3:=St.le_upd' (St.le_refl S) hb3 (.obj 62 [.int .i64 0,.int .i64 0]);generalize hS3:S.upd b3 (.obj 62 [.int .i64 0,.int .i64 0])=S3 at *;refine awp_seq2 fun K hK hQ=>?_
 conv=>whnf
 refine hK _ _ ?_;clear hK hQ K;refine awp_seq2 fun K hK hQ=>?_
 conv=>whnf
 refine⟨⟨Nat×Nat×List UInt8,fun x=>[(0,.sl .any 10 (rowsT l)),(3,.ref b3 0),(4,.sl (.acc x.2.1) 1 (rowsL x.2.2)),(5,.int .i64 (x.1:Int))],
  fun x S1=>St.le S3 S1∧TipOk S3 S1 x.2.1 5 1 x.2.2.length∧x.1≤l.length∧x.2.2.length≤x.1*9000000∧writeL (l.drop x.1) x.2.2 x.1=writeL l [] 0,fun x=>l.length-x.1⟩,
  ⟨(0,0,[]),⟨⟨rfl,rfl⟩,rfl,rfl,rfl,trivial⟩,_,St.leW_refl _,St.le_refl _,fun h=>absurd h (by simp),by omega,by simp,rfl⟩,?_⟩
 rintro⟨i,bo,acc⟩ S1 ⟨hle,hT,h2,h3,h4⟩;dsimp only at hle hT h2 h3 h4;have q1:=hle _ _ q3;conv=>whnf
 intro _;conv=>whnf
 refine split_of (fun hlt=>?_) (fun hlt=>?_)
 ·have hlt:i<l.length:=by have:=of_decide_eq_true hlt;rw[rowsT_len] at this;omega
  have hd:l.drop i=l[i]::l.drop (i+1):=List.drop_eq_getElem_cons hlt
  rw[hd] at h4;obtain⟨ho,hsz,hln⟩:=hok _ (List.getElem_mem hlt);have hpr:=fun S=>Print_r_ok (G:=G) hG l[i] ho hln S
  have hps:=printP_size l[i]
  have ga:(rowsT l)[(i:Int).toNat]? = some (stepR l[i]):=by simp[rowsT,hlt]
  simp only[writeL] at h4;generalize hgi:l[i]=v at *;generalize (printP v).1=tx at *;generalize (printP v).2=e at *;have w1:IntKind.i64.wrap ((i:Int)+1)=((i+1:Nat):Int):=wrap_nat (by omega)
  conv=>whnf
  refine⟨_,⟨by omega,ga⟩,?_⟩
  conv=>whnf
  refine(hpr _).mono ?_;rintro o T ⟨rfl,rfl⟩;conv=>whnf
  refine split_of (fun he=>?_) (fun he=>?_)
  ·have he:¬ e=0:=by simpa using he
   rw[if_neg he] at h4;rw[← h4] at hQ;conv=>whnf
   refine⟨_,_,q1,?_⟩;conv=>whnf
   refine hQ _ _ _ (by simp) ?_
   conv=>whnf
   rw[w1];refine⟨_,_,St.upd_same _ _ _,?_⟩;conv=>whnf
   exact⟨_,_,⟨rfl,rfl⟩,St.le_upd (St.le_trans hle3 hle) hb3 _,AV.leS_refl _ _ _⟩
  ·have he:e=0:=by simpa using he
   rw[if_pos he] at h4;clear hK hQ;conv=>whnf
   have hxl:tx.data.toList.length=tx.size:=by rw[Array.length_toList];rfl
   refine⟨⟨fun hl=>?_,?_⟩,fun t' S2 ha2=>?_⟩
   ·have hl:0<acc.length:=by rw[← rowsL_len];exact hl
    exact((hT hl).1).trans (by rw[rowsL_len];rfl)
   ·show((rowsL acc).length+(rowsB tx).length)*1≤_
    rw[rowsL_len,rowsB_L,rowsL_len,hxl];omega
   dsimp only at ha2;rw[rowsL_len,rowsB_L,rowsL_len] at ha2;obtain⟨hT2,hle2⟩:=AccStep.tipOk hT hle ha2;rw[rowsB_L,rowsL_append];conv=>whnf
   intro bc hbc;have hTc:=hT2.keep (S':=S2.upd bc (.tip 5 1 1)) fun o ho=>by rw[St.upd_ne _ _ _ _ (St.ne_of hbc ho)];exact ho
   have hlec:=St.le_upd' hle2 hbc (.tip 5 1 1)
   conv=>whnf
   refine⟨⟨fun hl=>?_,?_⟩,fun S5 c1 c2 t2 c3=>?_⟩
   ·rw[rowsL_len];refine(hTc ?_).1.trans ?_
    ·have:=List.length_pos_iff.2 hl
     rw[rowsL_len,List.length_append] at this;omega
    ·rw[List.length_append];rfl
   ·show((rowsL (acc++tx.data.toList)).length+1)*1≤_
    rw[rowsL_len,List.length_append,hxl];omega
   have ha3:AccStep (S2.upd bc (.tip 5 1 1)) t' 5 1 (acc.length+tx.data.toList.length) 1 t2 (S5.upd t2 (.tip 5 1 (acc.length+tx.data.toList.length+1))):=.inr ⟨by omega,S5,fun e=>c1 (by rw[List.eq_nil_of_length_eq_zero (show(acc++tx.data.toList).length=0 from by rw[List.length_append];exact e)];rfl),fun e=>c2 (rowsL_ne (by intro h0;have:=congrArg List.length h0;rw[List.length_append] at this;rw[this] at e;exact absurd e (Nat.lt_irrefl 0))),c3,rfl⟩
   obtain⟨hTd,hled⟩:=AccStep.tipOk hTc hlec ha3;have er2:rowsL (acc++tx.data.toList)++[[.int .u8 10]]=rowsL (acc++(tx++(⟨#[10]⟩:ByteArray)).data.toList):=by simp[rowsL]
   have el:(acc++(tx++(⟨#[10]⟩:ByteArray)).data.toList).length=acc.length+tx.data.toList.length+1:=by simp;omega
   rw[er2,rowsL_len,List.length_append];conv=>whnf
   refine⟨(i+1,t2,acc++(tx++(⟨#[10]⟩:ByteArray)).data.toList),⟨⟨rfl,rfl⟩,rfl,rfl,congrArg _ w1,trivial⟩,⟨_,St.leW_refl _,hled,by dsimp only;rw[el];exact hTd,by show i+1≤_;omega,?_,h4⟩,by show l.length-(i+1)<l.length-i;omega⟩
   show(acc++(tx++(⟨#[10]⟩:ByteArray)).data.toList).length≤(i+1)*9000000
   rw[el,hxl];omega
 ·have hlt:i=l.length:=by have:=of_decide_eq_false hlt;rw[rowsT_len] at this;omega
  rw[hlt,List.drop_length] at h4;rw[← h4] at hK;conv=>whnf
  refine hK _ _ ?_;clear hK hQ K;conv=>whnf
  refine⟨⟨acc.toArray⟩,rfl,?_⟩;conv=>whnf
  refine⟨_,_,q1,?_⟩;conv=>whnf
  refine⟨_,_,St.upd_same _ _ _,?_⟩;conv=>whnf
  exact⟨_,_,⟨rfl,rfl⟩,St.le_upd (St.le_trans hle3 hle) hb3 _,AV.leS_refl _ _ _⟩
def cnt(x n:Int):Int:=if 0≤x then x-n else x
def OkC(x:Int):Prop:=-9223372036854775808≤x∧x≤1000000000
theorem cnt_ok{x n:Int}(h:OkC x)(h0:0≤n)(h1:n≤9223372036854775807):OkC (cnt x n):=by
 unfold OkC cnt at *
 split<;>omega
def CntAt(S:St)(b:Nat)(x:Int):Prop:=S b=some (.obj 73 [.int .i64 x])
theorem CMany_ok(n:Int)(S:St):Triple P (C G) 5 [.int .i64 n] S fun o S'=>∃ b,S b=none∧o=.ret (.ref b 0)∧S'=S.upd b (.obj 73 [.int .i64 n]):=by
 refine triple_of_awp (hT G) hm Tryz.func5 rfl (by decide +kernel) rfl (by decide +kernel) (by show 1≤_;decide +kernel) rfl ?_
 conv=>whnf
 intro b hb;conv=>whnf
 exact⟨_,_,⟨b,hb,rfl,rfl⟩,St.le_refl _,AV.leS_refl _ _ _⟩
theorem COk_ok{S:St}{b:Nat}{x:Int}(h:CntAt S b x):Triple P (C G) 7 [.ref b 0] S fun o S'=>o=.ret (.bool (decide (0≤x)))∧S'=S:=by
 unfold CntAt at h;refine triple_of_awp (hT G) hm Tryz.func7 rfl (by decide +kernel) rfl (by decide +kernel) (by show 1≤_;decide +kernel) rfl ?_
 conv=>whnf
 refine⟨_,_,h,?_⟩;conv=>whnf
 exact⟨_,_,⟨rfl,rfl⟩,St.le_refl _,AV.leS_refl _ _ _⟩
theorem CAdd_ok{S:St}{b:Nat}{x:Int}(h:CntAt S b x)(hx:OkC x)(n:Int)(h0:0≤n)(h1:n≤9223372036854775807):Triple P (C G) 47 [.ref b 0,.int .i64 n] S fun o S'=>(∃ r,o=.ret (.bool r))∧S'=S.upd b (.obj 73 [.int .i64 (cnt x n)]):=by
 have hw:0≤x→IntKind.i64.wrap (x-n)=x-n:=fun hp=>wrap_i64 (by omega) (by unfold OkC at hx;omega)
 unfold CntAt at h;unfold cnt
 by_cases hp:0≤x
 ·rw[if_pos hp];have hw:=hw hp;refine triple_of_awp (hT G) hm Tryz.func47 rfl (by decide +kernel) rfl (by decide +kernel) (by show 2≤_;decide +kernel) rfl ?_
  refine awp_seq2 fun K hK hQ=>?_
  conv=>whnf
  refine hK _ _ ?_;clear hK hQ K;refine awp_seq2 fun K hK hQ=>?_
  conv=>whnf
  refine⟨_,_,h,?_⟩;conv=>whnf
  refine split_of (fun _=>?_) (fun hh=>absurd hp (of_decide_eq_false hh))
  conv=>whnf
  refine⟨_,_,h,?_⟩;conv=>whnf
  refine⟨_,_,h,?_⟩;conv=>whnf
  rw[hw];refine hK _ _ ?_;clear hK hQ K;conv=>whnf
  refine⟨_,_,St.upd_same _ _ _,?_⟩;conv=>whnf
  exact⟨_,_,⟨⟨_,rfl⟩,rfl⟩,St.le_refl _,AV.leS_refl _ _ _⟩
 ·rw[if_neg hp];refine triple_of_awp (hT G) hm Tryz.func47 rfl (by decide +kernel) rfl (by decide +kernel) (by show 2≤_;decide +kernel) rfl ?_
  refine awp_seq2 fun K hK hQ=>?_
  conv=>whnf
  refine hK _ _ ?_;clear hK hQ K;refine awp_seq2 fun K hK hQ=>?_
  conv=>whnf
  refine⟨_,_,h,?_⟩;conv=>whnf
  refine split_of (fun hh=>absurd (of_decide_eq_true hh) hp) (fun _=>?_)
  conv=>whnf
  refine hK _ _ ?_;clear hK hQ K;conv=>whnf
  refine⟨_,_,h,?_⟩;conv=>whnf
  exact⟨_,_,⟨⟨_,rfl⟩,by rw[St.upd_id h]⟩,St.le_refl _,AV.leS_refl _ _ _⟩
def cntT(x:Int)(s:ByteArray):Int:=cnt (cnt x 1) s.size
theorem cntT_ok{x:Int}(h:OkC x)(s:ByteArray)(hs:s.size≤9223372036854775807):OkC (cntT x s):=cnt_ok (cnt_ok h (by omega) (by omega)) (by omega) (by omega)
theorem Text_c{S:St}{b:Nat}{x:Int}(h:CntAt S b x)(hx:OkC x)(s:ByteArray)(hs:s.size≤9223372036854775807):Triple P (C G) 44 [.ref b 0,.str s] S fun o S'=>o=.ret (.tu [])∧S'=S.upd b (.obj 73 [.int .i64 (cntT x s)]):=by
 have a1:=CAdd_ok (G:=G) h hx 1 (by omega) (by omega)
 have h1:CntAt (S.upd b (.obj 73 [.int .i64 (cnt x 1)])) b (cnt x 1):=St.upd_same _ _ _
 have a2:=CAdd_ok (G:=G) h1 (cnt_ok hx (by omega) (by omega)) s.size (by omega) (by omega)
 rw[St.upd_upd] at a2;unfold cntT;generalize cnt (cnt x 1) s.size=z at *;refine triple_of_awp (hT G) hm Tryz.func44 rfl (by decide +kernel) rfl (by decide +kernel) (by show 2≤_;decide +kernel) rfl ?_
 refine awp_seq2 fun K hK hQ=>?_
 conv=>whnf
 refine a1.mono ?_;rintro o T ⟨⟨r,rfl⟩,rfl⟩;conv=>whnf
 refine hK _ _ ?_;clear hK hQ K;conv=>whnf
 refine a2.mono ?_;rintro o T ⟨⟨r,rfl⟩,rfl⟩;conv=>whnf
 exact⟨_,_,⟨rfl,rfl⟩,St.le_refl _,AV.leS_refl _ _ _⟩
def cntL:Int→List ByteArray→Int
 | x,[]=>x
 | x,s::l=>if 0≤x then cntL (cntT x s) l else x
theorem Texts_c{S:St}{b:Nat}{x:Int}(h:CntAt S b x)(hx:OkC x)(l:List ByteArray)(hs:∀ o∈l,((fun s:ByteArray=>s) o).size≤9223372036854775807):Triple P (C G) 48 [.ref b 0,.sl .any 1 (rowsS l)] S fun o S'=>o=.ret (.tu [])∧S'=S.upd b (.obj 73 [.int .i64 (cntL x (l.map fun o=>(fun s:ByteArray=>s) o))]):=by
 refine triple_of_awp (hT G) hm Tryz.func48 rfl (by decide +kernel) rfl (by decide +kernel) (by show 2≤_;decide +kernel) rfl ?_
 conv=>whnf
 refine⟨⟨Nat×Int,fun z=>[(0,.ref b 0),(1,.sl .any 1 (rowsS l)),(4,.int .i64 (z.1:Int))],
  fun z S'=>S'=S.upd b (.obj 73 [.int .i64 z.2])∧OkC z.2∧z.1≤l.length∧cntL z.2 ((l.map fun o=>(fun s:ByteArray=>s) o).drop z.1)=cntL x (l.map fun o=>(fun s:ByteArray=>s) o),fun z=>l.length-z.1⟩,
  ⟨(0,x),⟨rfl,⟨rfl,rfl⟩,rfl,trivial⟩,_,St.leW_refl _,(St.upd_id h).symm,hx,by omega,rfl⟩,?_⟩
 rintro⟨i,y⟩ S' ⟨rfl,hy,hi,he⟩;dsimp only at hy hi he;have h':CntAt (S.upd b (.obj 73 [.int .i64 y])) b y:=St.upd_same _ _ _;have hok:=COk_ok (G:=G) h';conv=>whnf
 intro hlen;conv=>whnf
 by_cases hlt:i<l.length
 ·rw[show decide ((i:Int)<((rowsS l).length:Int))=true from decide_eq_true (by rw[rowsS_len];omega)]
  have hd:(l.map fun o=>(fun s:ByteArray=>s) o).drop i=(fun o=>(fun s:ByteArray=>s) o) l[i]::(l.map fun o=>(fun s:ByteArray=>s) o).drop (i+1):=by
   rw[List.drop_eq_getElem_cons (by simpa using hlt)];simp
  rw[hd] at he;simp only[cntL] at he;have hsi:=hs _ (List.getElem_mem hlt);have ga:(rowsS l)[(i:Int).toNat]? = some ([.str l[i]]):=by simp[rowsS,hlt]
  have htx:=Text_c (G:=G) h' hy ((fun o=>(fun s:ByteArray=>s) o) l[i]) hsi
  have hyt:=cntT_ok hy ((fun o=>(fun s:ByteArray=>s) o) l[i]) hsi
  rw[St.upd_upd] at htx;rw[rowsS_len] at hlen;conv=>whnf
  refine hok.mono ?_;rintro o T ⟨rfl,rfl⟩;conv=>whnf
  refine split_of (fun hp=>?_) (fun hp=>?_)
  ·have hp:0≤y:=of_decide_eq_true hp
   rw[if_pos hp] at he;have w1:IntKind.i64.wrap ((i:Int)+1)=((i+1:Nat):Int):=wrap_nat (by omega)
   dsimp only at htx hyt he;generalize l[i]=e at *;conv=>whnf
   refine⟨_,⟨by omega,ga⟩,?_⟩
   conv=>whnf
   refine htx.mono ?_;rintro o T ⟨rfl,rfl⟩;conv=>whnf
   exact⟨(i+1,_),⟨rfl,⟨rfl,rfl⟩,congrArg _ w1,trivial⟩,⟨_,St.leW_refl _,rfl,hyt,hlt,he⟩,by show l.length-(i+1)<l.length-i;omega⟩
  ·have hp:¬ 0≤y:=of_decide_eq_false hp
   rw[if_neg hp] at he;conv=>whnf
   exact⟨_,_,⟨rfl,by rw[he]⟩,St.le_refl _,AV.leS_refl _ _ _⟩
 ·rw[show decide ((i:Int)<((rowsS l).length:Int))=false from decide_eq_false (by rw[rowsS_len];omega)]
  have hd:(l.map fun o=>(fun s:ByteArray=>s) o).drop i=[]:=List.drop_eq_nil_of_le (by simp;omega)
  rw[hd] at he;conv=>whnf
  exact⟨_,_,⟨rfl,by rw[← he];rfl⟩,St.le_refl _,AV.leS_refl _ _ _⟩
theorem Ops_c{S:St}{b:Nat}{x:Int}(h:CntAt S b x)(hx:OkC x)(l:List (Int×ByteArray×Int))(hs:∀ o∈l,(o.2.1).size≤9223372036854775807):Triple P (C G) 45 [.ref b 0,.sl .any 3 (rowsO l)] S fun o S'=>o=.ret (.tu [])∧S'=S.upd b (.obj 73 [.int .i64 (cntL x (l.map fun o=>o.2.1))]):=by
 refine triple_of_awp (hT G) hm Tryz.func45 rfl (by decide +kernel) rfl (by decide +kernel) (by show 2≤_;decide +kernel) rfl ?_
 conv=>whnf
 refine⟨⟨Nat×Int,fun z=>[(0,.ref b 0),(1,.sl .any 3 (rowsO l)),(4,.int .i64 (z.1:Int))],
  fun z S'=>S'=S.upd b (.obj 73 [.int .i64 z.2])∧OkC z.2∧z.1≤l.length∧cntL z.2 ((l.map fun o=>o.2.1).drop z.1)=cntL x (l.map fun o=>o.2.1),fun z=>l.length-z.1⟩,
  ⟨(0,x),⟨rfl,⟨rfl,rfl⟩,rfl,trivial⟩,_,St.leW_refl _,(St.upd_id h).symm,hx,by omega,rfl⟩,?_⟩
 rintro⟨i,y⟩ S' ⟨rfl,hy,hi,he⟩;dsimp only at hy hi he;have h':CntAt (S.upd b (.obj 73 [.int .i64 y])) b y:=St.upd_same _ _ _;have hok:=COk_ok (G:=G) h';conv=>whnf
 intro hlen;conv=>whnf
 by_cases hlt:i<l.length
 ·rw[show decide ((i:Int)<((rowsO l).length:Int))=true from decide_eq_true (by rw[rowsO_len];omega)]
  have hd:(l.map fun o=>o.2.1).drop i=(fun o=>o.2.1) l[i]::(l.map fun o=>o.2.1).drop (i+1):=by
   rw[List.drop_eq_getElem_cons (by simpa using hlt)];simp
  rw[hd] at he;simp only[cntL] at he;have hsi:=hs _ (List.getElem_mem hlt);have ga:(rowsO l)[(i:Int).toNat]? = some ([.int .i64 l[i].1,.str l[i].2.1,.int .i64 l[i].2.2]):=by simp[rowsO,hlt]
  have htx:=Text_c (G:=G) h' hy ((fun o=>o.2.1) l[i]) hsi
  have hyt:=cntT_ok hy ((fun o=>o.2.1) l[i]) hsi
  rw[St.upd_upd] at htx;rw[rowsO_len] at hlen;conv=>whnf
  refine hok.mono ?_;rintro o T ⟨rfl,rfl⟩;conv=>whnf
  refine split_of (fun hp=>?_) (fun hp=>?_)
  ·have hp:0≤y:=of_decide_eq_true hp
   rw[if_pos hp] at he;have w1:IntKind.i64.wrap ((i:Int)+1)=((i+1:Nat):Int):=wrap_nat (by omega)
   dsimp only at htx hyt he;generalize l[i]=e at *;conv=>whnf
   refine⟨_,⟨by omega,ga⟩,?_⟩
   conv=>whnf
   refine htx.mono ?_;rintro o T ⟨rfl,rfl⟩;conv=>whnf
   exact⟨(i+1,_),⟨rfl,⟨rfl,rfl⟩,congrArg _ w1,trivial⟩,⟨_,St.leW_refl _,rfl,hyt,hlt,he⟩,by show l.length-(i+1)<l.length-i;omega⟩
  ·have hp:¬ 0≤y:=of_decide_eq_false hp
   rw[if_neg hp] at he;conv=>whnf
   exact⟨_,_,⟨rfl,by rw[he]⟩,St.le_refl _,AV.leS_refl _ _ _⟩
 ·rw[show decide ((i:Int)<((rowsO l).length:Int))=false from decide_eq_false (by rw[rowsO_len];omega)]
  have hd:(l.map fun o=>o.2.1).drop i=[]:=List.drop_eq_nil_of_le (by simp;omega)
  rw[hd] at he;conv=>whnf
  exact⟨_,_,⟨rfl,by rw[← he];rfl⟩,St.le_refl _,AV.leS_refl _ _ _⟩
def cntRow(x:Int)(ps:List (ByteArray×Int))(bound:ByteArray):Int:=cntL (cntT x bound) (ps.map fun o=>o.1)
theorem cntL_ok:∀ (l:List ByteArray) {x:Int},OkC x→(∀ s∈l,s.size≤9223372036854775807)→OkC (cntL x l)
 | [],x,h,_=>h
 | s::l,x,h,hs=>by
   unfold cntL
   split
   ·exact cntL_ok l (cntT_ok h s (hs s (by simp))) fun y hy=>hs y (by simp[hy])
   ·exact h
theorem Row_c{S:St}{b:Nat}{x:Int}(h:CntAt S b x)(hx:OkC x)(l:List (ByteArray×Int))(bound:ByteArray)(hb:bound.size≤9223372036854775807)(hs:∀ o∈l,o.1.size≤9223372036854775807):Triple P (C G) 46 [.ref b 0,.ag [.sl .any 2 (rowsP l),.str bound]] S fun o S'=>o=.ret (.tu [])∧S'=S.upd b (.obj 73 [.int .i64 (cntRow x l bound)]):=by
 refine triple_of_awp (hT G) hm Tryz.func46 rfl (by decide +kernel) rfl (by decide +kernel) (by show 2≤_;decide +kernel) rfl ?_
 refine awp_seq2 fun K hK hQ=>?_
 conv=>whnf
 intro b3 hb3;conv=>whnf
 refine hK _ _ ?_;clear hK hQ K;have hne:b≠b3:=St.ne_of hb3 h;generalize hS1:S.upd b3 (.obj 51 [.sl .any 2 (rowsP l),.str bound])=S1;have q3:S1 b3=some (.obj 51 [.sl .any 2 (rowsP l),.str bound]):=by rw[← hS1];exact St.upd_same _ _ _
 have h1:CntAt S1 b x:=by rw[← hS1];exact St.up hb3 h
 have htx:=Text_c (G:=G) h1 hx bound hb
 have hy0:=cntT_ok hx bound hb
 refine awp_seq2 fun K hK hQ=>?_
 conv=>whnf
 refine⟨_,_,q3,?_⟩;conv=>whnf
 refine htx.mono ?_;rintro o T ⟨rfl,rfl⟩;conv=>whnf
 refine hK _ _ ?_;clear hK hQ K;unfold cntRow;generalize cntT x bound=x0 at *;conv=>whnf
 refine⟨⟨Nat×Int,fun z=>[(0,.ref b 0),(3,.ref b3 0),(4,.int .i64 (z.1:Int))],
  fun z S'=>S'=S1.upd b (.obj 73 [.int .i64 z.2])∧OkC z.2∧z.1≤l.length∧cntL z.2 ((l.map fun o=>o.1).drop z.1)=cntL x0 (l.map fun o=>o.1),fun z=>l.length-z.1⟩,
  ⟨(0,x0),⟨rfl,rfl,rfl,trivial⟩,_,St.leW_refl _,rfl,hy0,by omega,rfl⟩,?_⟩
 rintro⟨i,y⟩ S' ⟨rfl,hy,hi,he⟩;dsimp only at hy hi he;have h':CntAt (S1.upd b (.obj 73 [.int .i64 y])) b y:=St.upd_same _ _ _;have q':(S1.upd b (.obj 73 [.int .i64 y])) b3=some (.obj 51 [.sl .any 2 (rowsP l),.str bound]):=St.ov (Ne.symm hne) q3;have hok:=COk_ok (G:=G) h';have hend:∀ z:Int,St.le (S.upd b (.obj 73 [.int .i64 z])) (S1.upd b (.obj 73 [.int .i64 z])):=fun z=>by
  rw[← hS1];exact St.le_upd2 (St.le_upd' (St.le_refl _) hb3 _) _ _
 conv=>whnf
 refine⟨_,_,q',?_⟩;conv=>whnf
 intro hlen;conv=>whnf
 by_cases hlt:i<l.length
 ·rw[show decide ((i:Int)<((rowsP l).length:Int))=true from decide_eq_true (by rw[rowsP_len];omega)]
  have hd:(l.map fun o=>o.1).drop i=(fun o:ByteArray×Int=>o.1) l[i]::(l.map fun o=>o.1).drop (i+1):=by
   rw[List.drop_eq_getElem_cons (by simpa using hlt)];simp
  rw[hd] at he;simp only[cntL] at he;have hsi:=hs _ (List.getElem_mem hlt);have ga:(rowsP l)[(i:Int).toNat]? = some ([.str l[i].1,.int .i64 l[i].2]):=by simp[rowsP,hlt]
  have htx:=Text_c (G:=G) h' hy l[i].1 hsi
  have hyt:=cntT_ok hy l[i].1 hsi
  rw[St.upd_upd] at htx;rw[rowsP_len] at hlen;conv=>whnf
  refine hok.mono ?_;rintro o T ⟨rfl,rfl⟩;conv=>whnf
  refine split_of (fun hp=>?_) (fun hp=>?_)
  ·have hp:0≤y:=of_decide_eq_true hp
   rw[if_pos hp] at he;have w1:IntKind.i64.wrap ((i:Int)+1)=((i+1:Nat):Int):=wrap_nat (by omega)
   generalize l[i]=e at *;conv=>whnf
   refine⟨_,_,q',?_⟩;conv=>whnf
   refine⟨_,⟨by omega,ga⟩,?_⟩
   conv=>whnf
   refine htx.mono ?_;rintro o T ⟨rfl,rfl⟩;conv=>whnf
   exact⟨(i+1,_),⟨rfl,rfl,congrArg _ w1,trivial⟩,⟨_,St.leW_refl _,rfl,hyt,hlt,he⟩,by show l.length-(i+1)<l.length-i;omega⟩
  ·have hp:¬ 0≤y:=of_decide_eq_false hp
   rw[if_neg hp] at he;conv=>whnf
   exact⟨_,_,⟨rfl,rfl⟩,by rw[← he];exact hend _,AV.leS_refl _ _ _⟩
 ·rw[show decide ((i:Int)<((rowsP l).length:Int))=false from decide_eq_false (by rw[rowsP_len];omega)]
  have hd:(l.map fun o=>o.1).drop i=[]:=List.drop_eq_nil_of_le (by simp;omega)
  rw[hd] at he;conv=>whnf
  exact⟨_,_,⟨rfl,rfl⟩,by rw[← he];exact hend _,AV.leS_refl _ _ _⟩
structure SzStep (v:StepV):Prop where
 num:v.num.size≤9223372036854775807
 ops:∀ o∈v.ops,o.2.1.size≤9223372036854775807
 pieces:∀ p∈v.pieces,p.1.size≤9223372036854775807
 bound:v.bound.size≤9223372036854775807
 ids:∀ x∈v.ids,x.size≤9223372036854775807
 s7:v.s7.size≤9223372036854775807
 s8:v.s8.size≤9223372036854775807
 lits:v.lits.length≤9223372036854775807
def cntS(x:Int)(v:StepV):Int:=
 cntL (cnt (cntRow (cntL (cntT (cntT (cntT x v.num) v.s7) v.s8) (v.ops.map fun o=>o.2.1)) v.pieces v.bound) v.lits.length) (v.ids.map fun o=>(fun s:ByteArray=>s) o)
theorem cntRow_ok{x:Int}(h:OkC x)(l:List (ByteArray×Int))(bound:ByteArray)(hb:bound.size≤9223372036854775807)(hs:∀ o∈l,o.1.size≤9223372036854775807):OkC (cntRow x l bound):=
 cntL_ok _ (cntT_ok h bound hb) fun s hs'=>by
  obtain⟨o,ho,rfl⟩:=List.mem_map.1 hs';exact hs o ho
theorem cntS_ok{x:Int}(h:OkC x){v:StepV}(hv:SzStep v):OkC (cntS x v):=
 cntL_ok _ (cnt_ok (cntRow_ok (cntL_ok _ (cntT_ok (cntT_ok (cntT_ok h _ hv.num) _ hv.s7) _ hv.s8) (fun s hs=>by
  obtain⟨o,ho,rfl⟩:=List.mem_map.1 hs;exact hv.ops o ho)) _ _ hv.bound hv.pieces) (by omega) (by have:=hv.lits;omega)) (fun s hs=>by
  obtain⟨o,ho,rfl⟩:=List.mem_map.1 hs;exact hv.ids o ho)
theorem Step_c{S:St}{b:Nat}{x:Int}(h:CntAt S b x)(hx:OkC x)(v:StepV)(hv:SzStep v):Triple P (C G) 18 [.ref b 0,stepAV v] S fun o S'=>o=.ret (.tu [])∧S'=S.upd b (.obj 73 [.int .i64 (cntS x v)]):=by
 refine triple_of_awp (hT G) hm Tryz.func18 rfl (by decide +kernel) rfl (by decide +kernel) (by show 2≤_;decide +kernel) rfl ?_
 refine awp_seq2 fun K hK hQ=>?_
 conv=>whnf
 intro b3 hb3;conv=>whnf
 refine hK _ _ ?_;clear hK hQ K;have hne:b≠b3:=St.ne_of hb3 h;change awp _ _ _ _ (S.upd b3 (.obj 54 (stepR v))) _;generalize hS1:S.upd b3 (.obj 54 (stepR v))=S1;have q3:S1 b3=some (.obj 54 (stepR v)):=by rw[← hS1];exact St.upd_same _ _ _
 have h1:CntAt S1 b x:=by rw[← hS1];exact St.up hb3 h
 have hend:∀ z:Int,St.le (S.upd b (.obj 73 [.int .i64 z])) (S1.upd b (.obj 73 [.int .i64 z])):=fun z=>by
  rw[← hS1];exact St.le_upd2 (St.le_upd' (St.le_refl _) hb3 _) _ _
 have hc:∀ z:Int,CntAt (S1.upd b (.obj 73 [.int .i64 z])) b z:=fun z=>St.upd_same _ _ _
 have hq:∀ z:Int,(S1.upd b (.obj 73 [.int .i64 z])) b3=some (.obj 54 (stepR v)):=fun z=>St.ov (Ne.symm hne) q3
 have a0:=Text_c (G:=G) h1 hx v.num hv.num
 have o0:=cntT_ok hx v.num hv.num
 have a1:=Text_c (G:=G) (hc _) o0 v.s7 hv.s7
 have o1:=cntT_ok o0 v.s7 hv.s7
 have a2:=Text_c (G:=G) (hc _) o1 v.s8 hv.s8
 have o2:=cntT_ok o1 v.s8 hv.s8
 have a3:=Ops_c (G:=G) (hc _) o2 v.ops hv.ops
 have o3:OkC (cntL (cntT (cntT (cntT x v.num) v.s7) v.s8) (v.ops.map fun o=>o.2.1)):=cntL_ok _ o2 (fun s hs=>by
  obtain⟨o,ho,rfl⟩:=List.mem_map.1 hs;exact hv.ops o ho)
 have a4:=Row_c (G:=G) (hc _) o3 v.pieces v.bound hv.bound hv.pieces
 have o4:=cntRow_ok o3 v.pieces v.bound hv.bound hv.pieces
 have a5:=CAdd_ok (G:=G) (hc _) o4 (v.lits.length:Int) (by omega) (by have:=hv.lits;omega)
 have o5:=cnt_ok o4 (n:=(v.lits.length:Int)) (by omega) (by have:=hv.lits;omega)
 have a6:=Texts_c (G:=G) (hc _) o5 v.ids hv.ids
 rw[St.upd_upd] at a1 a2 a3 a4 a5 a6;unfold cntS;generalize cntL (cnt (cntRow (cntL (cntT (cntT (cntT x v.num) v.s7) v.s8) (v.ops.map fun o=>o.2.1)) v.pieces v.bound) v.lits.length) (v.ids.map fun o=>(fun s:ByteArray=>s) o)=z6 at *
 generalize cnt (cntRow (cntL (cntT (cntT (cntT x v.num) v.s7) v.s8) (v.ops.map fun o=>o.2.1)) v.pieces v.bound) v.lits.length=z5 at *
 generalize cntRow (cntL (cntT (cntT (cntT x v.num) v.s7) v.s8) (v.ops.map fun o=>o.2.1)) v.pieces v.bound=z4 at *
 generalize cntL (cntT (cntT (cntT x v.num) v.s7) v.s8) (v.ops.map fun o=>o.2.1)=z3 at *
 generalize cntT (cntT (cntT x v.num) v.s7) v.s8=z2 at *;generalize cntT (cntT x v.num) v.s7=z1 at *;generalize cntT x v.num=z0 at *;refine awp_seq2 fun K hK hQ=>?_
 conv=>whnf
 refine⟨_,_,q3,?_⟩;conv=>whnf
 refine a0.mono ?_;rintro o T ⟨rfl,rfl⟩;conv=>whnf
 refine hK _ _ ?_;clear hK hQ K;refine awp_seq2 fun K hK hQ=>?_
 conv=>whnf
 refine⟨_,_,hq _,?_⟩;conv=>whnf
 refine a1.mono ?_;rintro o T ⟨rfl,rfl⟩;conv=>whnf
 refine hK _ _ ?_;clear hK hQ K;refine awp_seq2 fun K hK hQ=>?_
 conv=>whnf
 refine⟨_,_,hq _,?_⟩;conv=>whnf
 refine a2.mono ?_;rintro o T ⟨rfl,rfl⟩;conv=>whnf
 refine hK _ _ ?_;clear hK hQ K;refine awp_seq2 fun K hK hQ=>?_
 conv=>whnf
 refine⟨_,_,hq _,?_⟩;conv=>whnf
 refine a3.mono ?_;rintro o T ⟨rfl,rfl⟩;conv=>whnf
 refine hK _ _ ?_;clear hK hQ K;refine awp_seq2 fun K hK hQ=>?_
 conv=>whnf
 refine⟨_,_,hq _,?_⟩;conv=>whnf
 refine a4.mono ?_;rintro o T ⟨rfl,rfl⟩;conv=>whnf
 refine hK _ _ ?_;clear hK hQ K;refine awp_seq2 fun K hK hQ=>?_
 conv=>whnf
 refine⟨_,_,hq _,?_⟩;conv=>whnf
 intro _;conv=>whnf
 rw[rowsI_len];refine a5.mono ?_;rintro o T ⟨⟨r,rfl⟩,rfl⟩;conv=>whnf
 refine hK _ _ ?_;clear hK hQ K;conv=>whnf
 refine⟨_,_,hq _,?_⟩;conv=>whnf
 refine a6.mono ?_;rintro o T ⟨rfl,rfl⟩;conv=>whnf
 exact⟨_,_,⟨rfl,rfl⟩,hend _,AV.leS_refl _ _ _⟩
def cntSs:Int→List StepV→Int
 | x,[]=>x
 | x,v::l=>if 0≤x then cntSs (cntS x v) l else x
theorem Steps_c{S:St}{b:Nat}{x:Int}(h:CntAt S b x)(hx:OkC x)(l:List StepV)(hs:∀ v∈l,SzStep v):Triple P (C G) 6 [.ref b 0,.sl .any 10 (rowsT l)] S fun o S'=>o=.ret (.tu [])∧S'=S.upd b (.obj 73 [.int .i64 (cntSs x l)]):=by
 refine triple_of_awp (hT G) hm Tryz.func6 rfl (by decide +kernel) rfl (by decide +kernel) (by show 2≤_;decide +kernel) rfl ?_
 conv=>whnf
 refine⟨⟨Nat×Int,fun z=>[(0,.ref b 0),(1,.sl .any 10 (rowsT l)),(4,.int .i64 (z.1:Int))],
  fun z S'=>S'=S.upd b (.obj 73 [.int .i64 z.2])∧OkC z.2∧z.1≤l.length∧cntSs z.2 (l.drop z.1)=cntSs x l,fun z=>l.length-z.1⟩,
  ⟨(0,x),⟨rfl,⟨rfl,rfl⟩,rfl,trivial⟩,_,St.leW_refl _,(St.upd_id h).symm,hx,by omega,rfl⟩,?_⟩
 rintro⟨i,y⟩ S' ⟨rfl,hy,hi,he⟩;dsimp only at hy hi he;have h':CntAt (S.upd b (.obj 73 [.int .i64 y])) b y:=St.upd_same _ _ _;have hok:=COk_ok (G:=G) h';conv=>whnf
 intro hlen;conv=>whnf
 by_cases hlt:i<l.length
 ·rw[show decide ((i:Int)<((rowsT l).length:Int))=true from decide_eq_true (by rw[rowsT_len];omega)]
  have hd:l.drop i=l[i]::l.drop (i+1):=List.drop_eq_getElem_cons hlt
  rw[hd] at he;simp only[cntSs] at he;have hsi:=hs _ (List.getElem_mem hlt);have ga:(rowsT l)[(i:Int).toNat]? = some (stepR l[i]):=by simp[rowsT,hlt]
  have htx:=Step_c (G:=G) h' hy l[i] hsi
  have hyt:=cntS_ok hy hsi
  rw[St.upd_upd] at htx;rw[rowsT_len] at hlen;conv=>whnf
  refine hok.mono ?_;rintro o T ⟨rfl,rfl⟩;conv=>whnf
  refine split_of (fun hp=>?_) (fun hp=>?_)
  ·have hp:0≤y:=of_decide_eq_true hp
   rw[if_pos hp] at he;have w1:IntKind.i64.wrap ((i:Int)+1)=((i+1:Nat):Int):=wrap_nat (by omega)
   generalize l[i]=e at *;conv=>whnf
   refine⟨_,⟨by omega,ga⟩,?_⟩
   conv=>whnf
   refine htx.mono ?_;rintro o T ⟨rfl,rfl⟩;conv=>whnf
   exact⟨(i+1,_),⟨rfl,⟨rfl,rfl⟩,congrArg _ w1,trivial⟩,⟨_,St.leW_refl _,rfl,hyt,hlt,he⟩,by show l.length-(i+1)<l.length-i;omega⟩
  ·have hp:¬ 0≤y:=of_decide_eq_false hp
   rw[if_neg hp] at he;conv=>whnf
   exact⟨_,_,⟨rfl,by rw[he]⟩,St.le_refl _,AV.leS_refl _ _ _⟩
 ·rw[show decide ((i:Int)<((rowsT l).length:Int))=false from decide_eq_false (by rw[rowsT_len];omega)]
  have hd:l.drop i=[]:=List.drop_eq_nil_of_le (by omega)
  rw[hd] at he;conv=>whnf
  exact⟨_,_,⟨rfl,by rw[← he];rfl⟩,St.le_refl _,AV.leS_refl _ _ _⟩
def wS1(s:ByteArray):Nat:=1+s.size
def wL(l:List ByteArray):Nat:=(l.map wS1).sum
theorem cnt_back{x n:Int}(h0:0≤n)(h:0≤cnt x n):0≤x∧cnt x n=x-n:=by
 unfold cnt at *
 by_cases hx:0≤x
 ·rw[if_pos hx];exact⟨hx,rfl⟩
 ·rw[if_neg hx] at h;exact absurd h hx
theorem cntT_back{x:Int}{s:ByteArray}(h:0≤cntT x s):0≤x∧cntT x s=x-(wS1 s:Nat):=by
 unfold cntT at *;obtain⟨h1,h2⟩:=cnt_back (by omega) h
 obtain⟨h3,h4⟩:=cnt_back (by omega) h1
 refine⟨h3,?_⟩;rw[h2,h4];unfold wS1;omega
theorem cntL_back:∀ {l:List ByteArray} {x:Int},0≤cntL x l→0≤x∧cntL x l=x-(wL l:Nat)
 | [],x,h=>⟨h,by simp[cntL,wL]⟩
 | s::l,x,h=>by
   unfold cntL at h ⊢
   by_cases hx:0≤x
   ·rw[if_pos hx] at h ⊢;obtain⟨h1,h2⟩:=cntL_back h;obtain⟨h3,h4⟩:=cntT_back h1;refine⟨hx,?_⟩;rw[h2,h4];simp only[wL,List.map_cons,List.sum_cons];omega
   ·rw[if_neg hx] at h;exact absurd h hx
def wt(v:StepV):Nat:=wS1 v.num+wS1 v.s7+wS1 v.s8+wL (v.ops.map fun o=>o.2.1)+wS1 v.bound+wL (v.pieces.map fun o=>o.1)+v.lits.length+wL v.ids
theorem cntS_back{x:Int}{v:StepV}(h:0≤cntS x v):0≤x∧cntS x v=x-(wt v:Nat):=by
 unfold cntS cntRow at *;obtain⟨h1,e1⟩:=cntL_back h;obtain⟨h2,e2⟩:=cnt_back (by omega) h1
 obtain⟨h3,e3⟩:=cntL_back h2;obtain⟨h4,e4⟩:=cntT_back h3;obtain⟨h5,e5⟩:=cntL_back h4;obtain⟨h6,e6⟩:=cntT_back h5;obtain⟨h7,e7⟩:=cntT_back h6;obtain⟨h8,e8⟩:=cntT_back h7;refine⟨h8,?_⟩;rw[e1,e2,e3,e4,e5,e6,e7,e8];have:wL (v.ids.map fun o=>(fun s:ByteArray=>s) o)=wL v.ids:=by congr 1;exact List.map_id v.ids
 unfold wt;omega
def wts(l:List StepV):Nat:=(l.map wt).sum
theorem cntSs_back:∀ {l:List StepV} {x:Int},0≤cntSs x l→0≤x∧cntSs x l=x-(wts l:Nat)
 | [],x,h=>⟨h,by simp[cntSs,wts]⟩
 | s::l,x,h=>by
   unfold cntSs at h ⊢
   by_cases hx:0≤x
   ·rw[if_pos hx] at h ⊢;obtain⟨h1,h2⟩:=cntSs_back h;obtain⟨h3,h4⟩:=cntS_back h1;refine⟨hx,?_⟩;rw[h2,h4];simp only[wts,List.map_cons,List.sum_cons];omega
   ·rw[if_neg hx] at h;exact absurd h hx
theorem wL_mem{l:List ByteArray}:∀ s∈l,s.size≤wL l:=by
 induction l with
 | nil=>intro s hs;cases hs
 | cons x l ih=>
   intro s hs;have e:wL (x::l)=wS1 x+wL l:=by simp[wL]
   rcases List.mem_cons.1 hs with rfl | hs
   ·unfold wS1 at e;omega
   ·have:=ih s hs;omega
theorem wL_len(l:List ByteArray):l.length≤wL l:=by
 induction l with
 | nil=>simp
 | cons x l ih=>
   have e:wL (x::l)=wS1 x+wL l:=by simp[wL]
   unfold wS1 at e;simp only[List.length_cons];omega
structure IntStep (v:StepV):Prop where
 ops:∀ o∈v.ops,okI o.2.2
 pieces:∀ p∈v.pieces,okI p.2
 lits:∀ z∈v.lits,okI z
theorem ok_of_wt{v:StepV}(h:wt v≤200000)(hi:IntStep v):OkStep v:=by
 unfold wt at h;have h1:=wL_len (v.ops.map fun o=>o.2.1)
 have h2:=wL_len (v.pieces.map fun o=>o.1)
 have h3:=wL_len v.ids
 rw[List.length_map] at h1 h2;have e1:v.num.size≤wS1 v.num:=by unfold wS1;omega
 have e2:v.s7.size≤wS1 v.s7:=by unfold wS1;omega
 have e3:v.s8.size≤wS1 v.s8:=by unfold wS1;omega
 have e4:v.bound.size≤wS1 v.bound:=by unfold wS1;omega
 refine⟨⟨by omega,fun o ho=>⟨hi.ops o ho,?_⟩⟩,⟨by omega,fun p hp=>⟨hi.pieces p hp,?_⟩,by omega⟩,⟨by omega,hi.lits⟩,⟨by omega,fun x hx=>?_⟩,by omega,by omega,by omega⟩
 ·have:=wL_mem (l:=v.ops.map fun o=>o.2.1) o.2.1 (List.mem_map.2 ⟨o,ho,rfl⟩);omega
 ·have:=wL_mem (l:=v.pieces.map fun o=>o.1) p.1 (List.mem_map.2 ⟨p,hp,rfl⟩);omega
 ·have:=wL_mem x hx;omega
theorem opT_len(o:OpV)(h:okI o.2.2):(opT o).size≤o.2.1.size+25:=by
 have hl:=litT_size o.2.2 h
 unfold opT
 split
 ·omega
 split
 ·omega
 split
 ·show 1≤_;omega
 split
 ·rw[ba_size_append];show _+2≤_;omega
 split
 ·rw[ba_size_append];show _+2≤_;omega
 split
 ·show 1≤_;omega
 split
 ·rw[ba_size_append];show _+2≤_;omega
 ·exact Nat.zero_le _
theorem ops_sum(l:List OpV)(h:∀ o∈l,okI o.2.2):sumS (l.map opT)+l.length≤26*wL (l.map fun o=>o.2.1):=by
 induction l with
 | nil=>simp[sumS]
 | cons o l ih=>
   have ih:=ih fun x hx=>h x (by simp[hx])
   have h1:=opT_len o (h o (by simp))
   have e:wL ((o::l).map fun o=>o.2.1)=wS1 o.2.1+wL (l.map fun o=>o.2.1):=by simp[wL]
   rw[e];unfold wS1;simp only[List.map_cons,sumS_cons,List.length_cons] at ih ⊢;omega
theorem pieces_sum(l:List (ByteArray×Int))(h:∀ o∈l,okI o.2):sumS (pieceT l)+(pieceT l).length≤26*wL (l.map fun o=>o.1):=by
 induction l with
 | nil=>simp[sumS,pieceT]
 | cons o l ih=>
   have ih:=ih fun x hx=>h x (by simp[hx])
   have h1:=litT_size o.2 (h o (by simp))
   have e:wL ((o::l).map fun o=>o.1)=wS1 o.1+wL (l.map fun o=>o.1):=by simp[wL]
   have e2:pieceT (o::l)=o.1::litT o.2::pieceT l:=by simp[pieceT]
   rw[e,e2];unfold wS1;simp only[sumS_cons,List.length_cons] at ih ⊢;omega
theorem lits_sum(l:List Int)(h:∀ z∈l,okI z):sumS (litsT l)+(litsT l).length≤26*l.length:=by
 induction l with
 | nil=>simp[sumS,litsT]
 | cons z l ih=>
   have ih:=ih fun x hx=>h x (by simp[hx])
   have h1:=litT_size z (h z (by simp))
   have e2:litsT (z::l)=litT z::litsT l:=by simp[litsT]
   rw[e2];simp only[sumS_cons,List.length_cons] at ih ⊢;omega
theorem ids_sum(l:List ByteArray):sumS l+l.length≤26*wL l:=by
 induction l with
 | nil=>simp[sumS]
 | cons x l ih=>
   have e:wL (x::l)=wS1 x+wL l:=by simp[wL]
   rw[e];unfold wS1;simp only[sumS_cons,List.length_cons] at ih ⊢;omega
theorem endT_len(v:StepV):(endT v).size≤20+v.s7.size+v.s8.size+wL v.ids:=by
 have hid:(idT v.ids).size≤3+wL v.ids:=by
  cases hv:v.ids with
  | nil=>decide
  | cons x l=>
    have e:wL (x::l)=wS1 x+wL l:=by simp[wL]
    unfold idT;rw[ba_size_append,e];unfold wS1
    show 3+_≤_
    omega
 unfold endT
 split
 ·show 4≤_;omega
 split
 ·show 3≤_;omega
 split
 ·rw[ba_size_append];show 5+_≤_;omega
 split
 ·rw[ba_size_append,ba_size_append];show 4+_+_≤_;omega
 split
 ·rw[ba_size_append,ba_size_append,ba_size_append,ba_size_append];show 7+_+_+1+_≤_;omega
 ·exact Nat.zero_le _
theorem rowT_len(ps:List (ByteArray×Int))(bound:ByteArray)(h:∀ o∈ps,okI o.2):(rowT ps bound).size≤26*wL (ps.map fun o=>o.1)+bound.size+6:=by
 have h1:=joinS_sum (pieceT ps++[geS,bound,semiS]) spaceS
 have h2:=pieces_sum ps h
 have e:spaceS.size=1:=rfl
 have e2:geS.size=2:=rfl
 have e3:semiS.size=1:=rfl
 rw[e,sumS_append] at h1;simp only[sumS_cons,sumS_nil,List.length_append,List.length_cons,List.length_nil,e2,e3] at h1;unfold rowT;omega
set_option maxHeartbeats 2000000 in
theorem textT_wt{v:StepV}(hi:IntStep v):(textT v).size≤26*wt v+60:=by
 have h0:=joinS_sum (textW v) spaceS
 have e:spaceS.size=1:=rfl
 rw[e] at h0;have h1:sumS (v.ops.map opT)+v.ops.length≤26*wL (v.ops.map fun o=>o.2.1):=ops_sum v.ops hi.ops
 have h2:=rowT_len v.pieces v.bound hi.pieces
 have h3:=lits_sum v.lits hi.lits
 have h4:=ids_sum v.ids
 have h5:=endT_len v
 have e1:w1S.size=32:=rfl
 have e2:kF.size=1:=rfl
 have e3:kPol.size=3:=rfl
 have e4:kRup.size=3:=rfl
 have e5:kE.size=1:=rfl
 have e6:kSoli.size=4:=rfl
 have e7:kSolx.size=4:=rfl
 have e8:kDel.size=3:=rfl
 have e9:kStar.size=1:=rfl
 have e10:w8S.size=11:=rfl
 have e11:kConc.size=10:=rfl
 have e12:w10S.size=24:=rfl
 have e13:(⟨#[105,100]⟩:ByteArray).size=2:=rfl
 unfold textT;refine Nat.le_trans h0 ?_;unfold wt wS1;unfold textW
 repeat' split
 all_goals simp only[sumS_append,sumS_cons,sumS_nil,List.length_append,List.length_cons,List.length_nil,List.length_map,e1,e2,e3,e4,e5,e6,e7,e8,e9,e10,e11,e12,e13]
 all_goals omega
theorem wts_mem{l:List StepV}:∀ v∈l,wt v≤wts l:=by
 induction l with
 | nil=>intro s hs;cases hs
 | cons x l ih=>
   intro s hs;have e:wts (x::l)=wt x+wts l:=by simp[wts]
   rcases List.mem_cons.1 hs with rfl | hs
   ·omega
   ·have:=ih s hs;omega
theorem wts_len(l:List StepV):4*l.length≤wts l:=by
 induction l with
 | nil=>simp
 | cons x l ih=>
   have e:wts (x::l)=wt x+wts l:=by simp[wts]
   have:4≤wt x:=by unfold wt wS1;omega
   simp only[List.length_cons];omega
theorem catB_len1(x:ByteArray)(l:List ByteArray):(catB (x::l)).size=x.size+(catB l).size:=by
 have hx:x.data.toList.length=x.size:=by rw[Array.length_toList];rfl
 simp only[catB,ByteArray.size,List.flatMap_cons,List.size_toArray,List.length_append,hx]
theorem cat_wL{α:Type}(l:List α)(f g:α→ByteArray)(h:∀ x∈l,(f x).size≤26*wS1 (g x)):(catB (l.map f)).size≤26*wL (l.map g):=by
 induction l with
 | nil=>exact Nat.zero_le _
 | cons x l ih=>
   have ih:=ih fun y hy=>h y (by simp[hy])
   have h1:=h x (by simp)
   have e:wL ((x::l).map g)=wS1 (g x)+wL (l.map g):=by simp[wL]
   rw[List.map_cons,catB_len1,e];omega
theorem textsR_wt(l:List ByteArray):(textsR l).size≤26*wL l:=by
 have:=cat_wL l (fun x=>spc++x) (fun x=>x) fun x _=>by rw[ba_size_append];unfold wS1;show 1+_≤_;omega
 rw[List.map_id'] at this;exact this
theorem idR_wt(l:List ByteArray):(idR l).size≤2+26*wL l:=by
 unfold idR
 split
 ·exact Nat.zero_le _
 ·rw[ba_size_append];have:=textsR_wt (‹ByteArray›::‹List ByteArray›);exact Nat.add_le_add (Nat.le_refl _) this
theorem rowR_wt(ps:List (ByteArray×Int))(b:ByteArray)(h:∀ p∈ps,okI p.2):(rowR ps b).size≤26*wL (ps.map fun o=>o.1)+b.size+6:=by
 have h1:=cat_wL ps pieceR (fun o=>o.1) fun x hx=>by
  have:=litRR_size x.2 (h x hx)
  unfold pieceR wS1;rw[ba_size_append,ba_size_append];show 1+_+_≤_;omega
 unfold rowR;rw[ba_size_append,ba_size_append,ba_size_append]
 show _+4+_+2≤_
 omega
theorem opsR_wt(l:List OpV)(h:∀ o∈l,okI o.2.2):(catB (l.map opR)).size≤26*wL (l.map fun o=>o.2.1):=
 cat_wL l opR (fun o=>o.2.1) fun x hx=>by
  have:=litRR_size x.2.2 (h x hx)
  unfold opR wS1
  repeat' split
  all_goals first
   | (rw[ba_size_append,ba_size_append];show 1+_+2≤_;omega)
   | (rw[ba_size_append];show 1+_≤_;omega)
   | (rw[ba_size_append];show _+2≤_;omega)
   | omega
   | (show 2≤_;omega)
theorem litsR_wt(l:List Int)(h:∀ z∈l,okI z):(catB (l.map litRR)).size≤26*l.length:=by
 have:=catB_size (l.map litRR) 24 fun x hx=>by
  obtain⟨y,hy,rfl⟩:=List.mem_map.1 hx;exact litRR_size y (h y hy)
 rw[List.length_map] at this;omega
theorem endR_wt(v:StepV):(endR v).size≤20+v.s7.size+v.s8.size+26*wL v.ids:=by
 have h1:=idR_wt v.ids
 unfold endR
 repeat' split
 all_goals first
  | (rw[ba_size_append,ba_size_append,ba_size_append,ba_size_append];show 8+_+_+1+_≤_;omega)
  | (rw[ba_size_append,ba_size_append];show 5+_+_≤_;omega)
  | (rw[ba_size_append];show 6+_≤_;omega)
  | (show 5≤_;omega)
  | (show 4≤_;omega)
  | (show 2≤_;omega)
set_option maxHeartbeats 2000000 in
theorem lineV_wt{v:StepV}(hi:IntStep v):(lineV v).size≤26*wt v+60:=by
 have h1:(catB (v.ops.map opR)).size≤26*wL (v.ops.map fun o=>o.2.1):=opsR_wt v.ops hi.ops
 have h2:=rowR_wt v.pieces v.bound hi.pieces
 have h3:=litsR_wt v.lits hi.lits
 have h4:=textsR_wt v.ids
 have h5:=endR_wt v
 have e1:w1S.size=32:=rfl
 have e3:kPol.size=3:=rfl
 have e4:kRup.size=3:=rfl
 have e5:kE.size=1:=rfl
 have e6:kSoli.size=4:=rfl
 have e7:kSolx.size=4:=rfl
 have e9:kStar.size=1:=rfl
 have e10:w8S.size=11:=rfl
 have e11:kConc.size=10:=rfl
 have e12:w10S.size=24:=rfl
 have e13:(⟨#[102,32]⟩:ByteArray).size=2:=rfl
 have e14:(⟨#[100,101,108,32,105,100]⟩:ByteArray).size=6:=rfl
 have e15:(⟨#[63]⟩:ByteArray).size=1:=rfl
 generalize hx:lineV v=x;unfold wt wS1;unfold lineV at hx
 by_cases k1:v.kind=1
 ·rw[if_pos k1] at hx;rw[← hx,e1];omega
 rw[if_neg k1] at hx
 by_cases k2:v.kind=2
 ·rw[if_pos k2] at hx;rw[← hx,ba_size_append,e13];omega
 rw[if_neg k2] at hx
 by_cases k3:v.kind=3
 ·rw[if_pos k3] at hx;rw[← hx,catB_len1,e3];omega
 rw[if_neg k3] at hx
 by_cases k4:v.kind=4
 ·rw[if_pos k4] at hx;rw[← hx,ba_size_append,ba_size_append,e4];omega
 rw[if_neg k4] at hx
 by_cases k5:v.kind=12
 ·rw[if_pos k5] at hx;rw[← hx,ba_size_append,ba_size_append,e5];omega
 rw[if_neg k5] at hx
 by_cases k6:v.kind=5
 ·rw[if_pos k6] at hx;rw[← hx,catB_len1,e6];omega
 rw[if_neg k6] at hx
 by_cases k7:v.kind=11
 ·rw[if_pos k7] at hx;rw[← hx,catB_len1,e7];omega
 rw[if_neg k7] at hx
 by_cases k8:v.kind=6
 ·rw[if_pos k8] at hx;rw[← hx,ba_size_append,e14];omega
 rw[if_neg k8] at hx
 by_cases k9:v.kind=7
 ·rw[if_pos k9] at hx;rw[← hx,e9];omega
 rw[if_neg k9] at hx
 by_cases k10:v.kind=8
 ·rw[if_pos k10] at hx;rw[← hx,e10];omega
 rw[if_neg k10] at hx
 by_cases k11:v.kind=9
 ·rw[if_pos k11] at hx;rw[← hx,ba_size_append,e11];omega
 rw[if_neg k11] at hx
 by_cases k12:v.kind=10
 ·rw[if_pos k12] at hx;rw[← hx,e12];omega
 rw[if_neg k12] at hx;rw[← hx,e15];omega
def tyA(j:Nat):TypeId:=match j with | 0=>29 | 1=>3 | 2=>52 | 3=>3 | 4=>49 | 5=>3 | 6=>48 | 7=>3 | 8=>22 | _=>3
abbrev RmA:=Nat→AccL
def fpA(A:RmA)(j:Nat):List (Nat×Own):=(A j).fp (tyA j)
def fpsA(A:RmA):List (Nat×Own):=(List.range' 0 10).flatMap (fpA A)
def setA(A:RmA)(j:Nat)(a:AccL):RmA:=fun x=>if x=j then a else A x
theorem fps_mid(A:RmA){j:Nat}(hj:j<10):fpsA A=(List.range' 0 j).flatMap (fpA A)++(fpA A j++(List.range' (j+1) (9-j)).flatMap (fpA A)):=by
 unfold fpsA;have e:List.range' 0 10=List.range' 0 j++j::List.range' (j+1) (9-j):=by
  have h1:List.range' 0 10=List.range' 0 j++List.range' (0+j) (10-j):=by
   rw[List.range'_append_1];congr 1;omega
  rw[h1,Nat.zero_add]
  congr 1
  obtain⟨d,hd⟩:∃ d,10-j=d+1:=⟨9-j,by omega⟩
  rw[hd,show 9-j=d by omega]
  rfl
 rw[e,List.flatMap_append,List.flatMap_cons]
theorem flatMap_eq{l:List Nat}{f g:Nat→List (Nat×Own)}(h:∀ x∈l,f x=g x):l.flatMap f=l.flatMap g:=by
 induction l with
 | nil=>rfl
 | cons a l ih=>rw[List.flatMap_cons,List.flatMap_cons,h a (by simp),ih fun x hx=>h x (by simp[hx])]
theorem fps_set(A:RmA){j:Nat}(hj:j<10)(a:AccL):fpsA (setA A j a)=(List.range' 0 j).flatMap (fpA A)++(a.fp (tyA j)++(List.range' (j+1) (9-j)).flatMap (fpA A)):=by
 rw[fps_mid (setA A j a) hj];have e1:fpA (setA A j a) j=a.fp (tyA j):=by unfold fpA setA;rw[if_pos rfl]
 rw[e1]
 congr 1
 ·refine flatMap_eq fun x hx=>?_
  rw[List.mem_range'_1] at hx;unfold fpA setA;rw[if_neg (by omega)]
 ·congr 1
  refine flatMap_eq fun x hx=>?_
  rw[List.mem_range'_1] at hx;unfold fpA setA;rw[if_neg (by omega)]
structure RmB (S₀ S:St) (rb:Nat) (cells:List AV) (A:RmA):Prop where
 eq:S=ov S₀ ((rb,.obj 44 cells)::fpsA A)
 ok:FpOk S₀ ((rb,.obj 44 cells)::fpsA A)
theorem RmB.at_{S₀ S:St}{rb:Nat}{cells:List AV}{A:RmA}(h:RmB S₀ S rb cells A):S rb=some (.obj 44 cells):=by
 rw[h.eq];exact St.upd_same _ _ _
theorem RmB.le{S₀ S:St}{rb:Nat}{cells:List AV}{A:RmA}(h:RmB S₀ S rb cells A):St.le S₀ S:=by
 rw[h.eq];exact ov_le S₀ h.ok
theorem RmB.put{S₀ S:St}{rb:Nat}{cells:List AV}{A:RmA}(h:RmB S₀ S rb cells A)(cells':List AV):RmB S₀ (S.upd rb (.obj 44 cells')) rb cells' A:=by
 have h1:=h.ok.set (pre:=[]) (.obj 44 cells')
 refine⟨?_,h1⟩;rw[h.eq];exact ov_upd_mid (pre:=[]) h.ok.nd
theorem RmB.tip{S₀ S:St}{rb:Nat}{cells:List AV}{A:RmA}(h:RmB S₀ S rb cells A){j:Nat}(hj:j<10)(hn:(A j).es≠[]):S (A j).b=some (.tip (tyA j) 1 (A j).es.length):=by
 have hk:=h.ok
 rw[h.eq];rw[fps_mid A hj,← List.cons_append] at hk ⊢;exact AccL.tip (pre:=(rb,.obj 44 cells)::(List.range' 0 j).flatMap (fpA A)) hk hn
theorem RmB.push{S₀ S:St}{rb:Nat}{cells:List AV}{A:RmA}(h:RmB S₀ S rb cells A){j:Nat}(hj:j<10){S₁:St}(h1:(A j).es=[]→S₁=S)(h2:(A j).es≠[]→S₁=S.del (A j).b){b':Nat}(hb:S₁ b'=none)(x:AV){n:Nat}(hn:n=(A j).es.length+1) :
 RmB S₀ (S₁.upd b' (.tip (tyA j) 1 n)) rb cells (setA A j ((A j).push b' x)):=by
 have hk:=h.ok
 have he:=h.eq
 rw[fps_mid A hj,← List.cons_append] at hk he;obtain⟨k1,k2⟩:=AccL.pushed (pre:=(rb,.obj 44 cells)::(List.range' 0 j).flatMap (fpA A)) (post:=(List.range' (j+1) (9-j)).flatMap (fpA A)) (a:=A j) (e:=tyA j) hk
  (fun e=>(h1 e).trans he) (fun e=>(h2 e).trans (by rw[he];rfl)) hb x hn
 refine⟨?_,?_⟩
 ·rw[k1,fps_set A hj,← List.cons_append]
 ·rw[fps_set A hj,← List.cons_append];exact k2
theorem RmB.over{S₀ S:St}{rb:Nat}{cells:List AV}{A:RmA}(h:RmB S₀ S rb cells A){x:Nat}(hx:S x=none)(o:Own):RmB (S₀.upd x o) (S.upd x o) rb cells A:=by
 have hx':=hx
 rw[h.eq] at hx';obtain⟨n1,n2⟩:=ov_none h.ok.nd hx';have hov:∀ fp:List (Nat×Own),x ∉ fp.map (·.1)→(ov S₀ fp).upd x o=ov (S₀.upd x o) fp:=by
  intro fp hfp
  induction fp with
  | nil=>rfl
  | cons p r ih=>
    obtain⟨c,q⟩:=p;simp only[List.map_cons,List.mem_cons,not_or] at hfp;simp only[ov];rw[St.upd_comm (Ne.symm hfp.1),ih hfp.2]
 refine⟨by rw[h.eq];exact hov _ n2,h.ok.nd,fun p hp=>?_⟩
 have hne:p.1≠x:=fun e=>n2 (by rw[← e];exact List.mem_map.2 ⟨p,hp,rfl⟩)
 rw[St.upd_ne _ _ _ _ hne];exact h.ok.new p hp
theorem RmB.down{S₀ S₁ S:St}{rb:Nat}{cells:List AV}{A:RmA}(h:RmB S₁ S rb cells A)(hle:St.le S₀ S₁):RmB S₀ (ov S₀ ((rb,.obj 44 cells)::fpsA A)) rb cells A∧St.le (ov S₀ ((rb,.obj 44 cells)::fpsA A)) S:=by
 refine⟨⟨rfl,h.ok.nd,fun p hp=>St.le_none hle (h.ok.new p hp)⟩,?_⟩
 rw[h.eq];intro b o hb
 by_cases hm:b∈(((rb,.obj 44 cells)::fpsA A).map (·.1))
 ·obtain⟨⟨c,p⟩,q1,rfl⟩:=List.mem_map.1 hm;rw[ov_get h.ok.nd q1] at hb ⊢;exact hb
 ·rw[ov_out hm] at hb ⊢;exact hle _ _ hb
def lotV(i:Nat):Int:=if i % 2=0 then -7701 else -7702
def wordV(i:Nat):ByteArray:=if i % 2=0 then ⟨#[60,111,110,101,62]⟩ else ⟨#[60,116,119,111,62]⟩
def mkI(i:Nat):List AV:=[.int .i64 (lotV i)]
def mkT(i:Nat):List AV:=[.str (wordV i)]
def mkP(i:Nat):List AV:=[.str ByteArray.empty,.int .i64 (lotV i)]
def mkO(i:Nat):List AV:=[.int .i64 0,.str ByteArray.empty,.int .i64 (lotV i)]
def mkS(i:Nat):List AV:=[.int .i64 0,.str ByteArray.empty,.nils,.nils,.str ByteArray.empty,.nils,.nils,.int .i64 (lotV i),.str ByteArray.empty,.str ByteArray.empty]
def mks(mk:Nat→List AV)(n:Nat):List (List AV):=(List.range n).map mk
theorem mks_succ(mk:Nat→List AV)(n:Nat):mks mk (n+1)=mks mk n++[mk n]:=by unfold mks;rw[List.range_succ,List.map_append];rfl
@[simp] theorem mks_len (mk:Nat→List AV) (n:Nat):(mks mk n).length=n:=by simp[mks]
abbrev Ent:=Nat×List (List AV)×Nat
def entAV(mk:Nat→List AV)(k:Nat)(e:Ent):AV:=.sl (.own e.1) k (e.2.1++mks mk e.2.2)
structure KInv (mk:Nat→List AV) (k:Nat) (a1 a2:AccL) (N:Nat):Prop where
 ex:∃ l:List Ent,a1.es=l.map (fun e=>[entAV mk k e])∧a2.es=l.map (fun e=>[AV.int .i64 (e.2.1.length:Int)])∧l.length≤N∧∀ e∈l,e.2.1.length+e.2.2≤1000000000
structure RmInv (A:RmA) (N:Nat):Prop where
 i:KInv mkI 1 (A 0) (A 1) N
 t:KInv mkT 1 (A 2) (A 3) N
 p:KInv mkP 2 (A 4) (A 5) N
 o:KInv mkO 3 (A 6) (A 7) N
 s:KInv mkS 10 (A 8) (A 9) N
def rmC(A:RmA):List AV:=[(A 0).av,(A 1).av,(A 2).av,(A 3).av,.nils,.nils,.nils,.nils,(A 4).av,(A 5).av,(A 6).av,(A 7).av,.nils,.nils,.nils,.nils,.nils,.nils,.nils,.nils,.nils,.nils,(A 8).av,(A 9).av,.nils,.nils,.nils,.nils]
def Rm(S₀ S:St)(rb:Nat)(N:Nat):Prop:=∃ A,RmB S₀ S rb (rmC A) A∧RmInv A N
theorem KInv.mono{mk:Nat→List AV}{k:Nat}{a1 a2:AccL}{N M:Nat}(h:KInv mk k a1 a2 N)(hm:N≤M):KInv mk k a1 a2 M:=by
 obtain⟨l,h1,h2,h3,h4⟩:=h.ex;exact⟨l,h1,h2,by omega,h4⟩
theorem KInv.push{mk:Nat→List AV}{k:Nat}{a1 a2:AccL}{N:Nat}(h:KInv mk k a1 a2 N)(b b1 b2 n:Nat)(base:List (List AV))(hb:base.length+n≤1000000000) :
 KInv mk k (a1.push b1 (.sl (.own b) k (base++mks mk n))) (a2.push b2 (.int .i64 (base.length:Int))) (N+1):=by
 obtain⟨l,h1,h2,h3,h4⟩:=h.ex;refine⟨l++[(b,base,n)],?_,?_,by simp;omega,?_⟩
 ·unfold AccL.push;dsimp only;rw[h1,List.map_append];rfl
 ·unfold AccL.push;dsimp only;rw[h2,List.map_append];rfl
 ·intro e he
  rcases List.mem_append.1 he with he | he
  ·exact h4 e he
  ·rw[List.mem_singleton.1 he];exact hb
end Go.Proofs.YtogipknpafkfpaaGreatDoor.Aw

/- Package proof, walked: text. slices.Equal at the steps' lists, walked. A long region is walked in parts. proof.same, wal -/
import Derived.Test.YtogipknpafkfpaaGreatDoorPpr13
import Derived.Test.YtogipknpafkfpaaGreatDoorPpr5
import Derived.Lib.SplitLaws
set_option linter.all false
set_option maxRecDepth 100000
namespace Go.Proofs.YtogipknpafkfpaaGreatDoor.Aw
open Go Go.RowKit
variable {G:Nat→Option (List AV)}
theorem Tx.more{S₀ S:St}{b bb:Nat}{l:List ByteArray}(h:Tx S₀ S b l)(hb:S bb=none)(o:Own):Tx S₀ (S.upd bb o) b l:=by
 obtain⟨t,h⟩:=h;have hk:∀ x p,S x=some p→(S.upd bb o) x=some p:=fun x p hx=>by rw[St.upd_ne _ _ _ _ (St.ne_of hb hx)];exact hx
 exact⟨t,fun x p hx=>hk _ _ (h.le x p hx),h.new,hk _ _ h.at_,h.tip.keep (hk _)⟩
theorem Tx.le{S₀ S:St}{b:Nat}{l:List ByteArray}(h:Tx S₀ S b l):St.le S₀ S:=by obtain⟨t,h⟩:=h;exact h.le
theorem text_ok(hG:G10 G)(v:StepV)(h:OkStep v)(S:St):Triple P (C G) 22 [stepAV v] S fun o S'=>o=.ret (.str (textT v))∧S'=S:=by
 have hjoin:=fun S=>join_ok (G:=G) (textW v) spaceS (by have:=(textW_bound h).1;omega) (textT_size h) S
 have hrowt:=fun S=>rowText_ok hG v.pieces v.bound h.row S
 have hends:=fun S=>ends_ok (G:=G) v h S
 have hlt:=fun S=>litTexts_ok hG v.lits h.lits.2 (by have:=h.lits.1;omega) S
 have hop:=fun o (ho:o∈v.ops) S=>opText_ok hG o (h.ops.2 o ho).1 (by have:=(h.ops.2 o ho).2;omega) S
 have m1:=h.ops.1
 have m2:=h.ids.1
 have m3:(litsT v.lits).length≤1000000:=by have:=h.lits.1;simpa [litsT] using this
 clear h;unfold textT;unfold textW at *;obtain⟨kind,num,ops,pieces,bound,lits,ids,n6,s7,s8⟩:=v;unfold stepAV at *;dsimp only at *;generalize rowT pieces bound=rt at *;generalize endT _=et at *;generalize litsT lits=lt at *;refine triple_of_awp (hT G) hm Tryz.func22 rfl (by decide +kernel) rfl (by decide +kernel) (by show 1≤_;decide +kernel) rfl ?_
 refine awp_seq2 fun K hK hQ=>?_
 conv=>whnf
 intro b1 hb1;conv=>whnf
 refine hK _ _ ?_;clear hK hQ K;have q1:=St.upd_same S b1 (.obj 54 [.int .i64 kind,.str num,.sl .any 3 (rowsO ops),.sl .any 2 (rowsP pieces),.str bound,.sl .any 1 (rowsI lits),.sl .any 1 (rowsS ids),.int .i64 n6,.str s7,.str s8]);have hle:=St.le_upd' (St.le_refl S) hb1 (.obj 54 [.int .i64 kind,.str num,.sl .any 3 (rowsO ops),.sl .any 2 (rowsP pieces),.str bound,.sl .any 1 (rowsI lits),.sl .any 1 (rowsS ids),.int .i64 n6,.str s7,.str s8]);generalize S.upd b1 (.obj 54 [.int .i64 kind,.str num,.sl .any 3 (rowsO ops),.sl .any 2 (rowsP pieces),.str bound,.sl .any 1 (rowsI lits),.sl .any 1 (rowsS ids),.int .i64 n6,.str s7,.str s8])=S1 at *;refine awp_seq2 fun K hK hQ=>?_
 conv=>whnf
 intro b3 hb3;conv=>whnf
 refine hK _ _ ?_;clear hK hQ K;obtain⟨Sf,hwf,hxf⟩:=Tx.new hb3;have hfresh:∀ bb o,(S1.upd b3 (.obj 52 [.nils])) bb=none→Tx S1 (Sf.upd bb o) b3 []∧St.leW (Sf.upd bb o) ((S1.upd b3 (.obj 52 [.nils])).upd bb o):=fun bb o hbb=>⟨hxf.more (St.leW_none hwf hbb) o,St.leW_over hwf bb o⟩
 have q13:(S1.upd b3 (.obj 52 [.nils])) b1=_:=St.up hb3 q1
 have qn:=St.upd_same S1 b3 (.obj 52 [.nils])
 have hle3:=St.le_upd' (St.le_refl S1) hb3 (.obj 52 [.nils])
 generalize S1.upd b3 (.obj 52 [.nils])=S2 at *;refine awp_seq2 fun K hK hQ=>?_
 conv=>whnf
 refine hK _ _ ?_;clear hK hQ K;refine awp_seq2 fun K hK hQ=>?_
 conv=>whnf
 refine⟨_,_,q13,?_⟩;conv=>whnf
 refine split_of (fun hh=>?_) (fun hh=>?_)
 ·have hh:kind=1:=by simpa using hh
  rw[if_pos hh] at hjoin hK;conv=>whnf
  -- the first words: [w1S] the list,1 how many
  intro bb hbb;conv=>whnf
  refine(Triple.weakS (say_ok (hfresh bb (.tip 9 1 1) hbb).1 ([w1S]) (by simp) _) (hfresh bb (.tip 9 1 1) hbb).2).mono ?_
  rintro o S' ⟨rfl,hx⟩;rw[List.nil_append] at hx;have q:=hx.le _ _ q1;conv=>whnf
  refine hK _ _ ?_;clear hK hQ K;obtain⟨t,hx⟩:=hx;conv=>whnf
  refine⟨_,_,hx.at_,?_⟩;conv=>whnf
  refine Triple.use (hjoin _) (by exact⟨⟨rfl,rfl⟩,rfl,trivial⟩) ?_
  rintro o T ⟨rfl,rfl⟩;conv=>whnf
  exact⟨_,_,⟨rfl,rfl⟩,St.le_trans hle hx.le,AV.leS_refl _ _ _⟩
 have n1:¬ kind=1:=by simpa using hh
 rw[if_neg n1] at hjoin hK;conv=>whnf
 refine split_of (fun hh=>?_) (fun hh=>?_)
 ·have hh:kind=2:=by simpa using hh
  rw[if_pos hh] at hjoin hK;conv=>whnf
  refine⟨_,_,q13,?_⟩;conv=>whnf
  -- the first words: [kF,num] the list,2 how many
  intro bb hbb;conv=>whnf
  refine(Triple.weakS (say_ok (hfresh bb (.tip 9 1 2) hbb).1 ([kF,num]) (by simp) _) (hfresh bb (.tip 9 1 2) hbb).2).mono ?_
  rintro o S' ⟨rfl,hx⟩;rw[List.nil_append] at hx;have q:=hx.le _ _ q1;conv=>whnf
  refine hK _ _ ?_;clear hK hQ K;obtain⟨t,hx⟩:=hx;conv=>whnf
  refine⟨_,_,hx.at_,?_⟩;conv=>whnf
  refine Triple.use (hjoin _) (by exact⟨⟨rfl,rfl⟩,rfl,trivial⟩) ?_
  rintro o T ⟨rfl,rfl⟩;conv=>whnf
  exact⟨_,_,⟨rfl,rfl⟩,St.le_trans hle hx.le,AV.leS_refl _ _ _⟩
 have n2:¬ kind=2:=by simpa using hh
 rw[if_neg n2] at hjoin hK;conv=>whnf
 refine split_of (fun hh=>?_) (fun hh=>?_)
 ·have hh:kind=3:=by simpa using hh
  rw[if_pos hh] at hjoin hK;conv=>whnf
  -- the first words: [kPol] the list,1 how many
  intro bb hbb;conv=>whnf
  refine(Triple.weakS (say_ok (hfresh bb (.tip 9 1 1) hbb).1 ([kPol]) (by simp) _) (hfresh bb (.tip 9 1 1) hbb).2).mono ?_
  rintro o S' ⟨rfl,hx⟩;rw[List.nil_append] at hx;have q:=hx.le _ _ q1;conv=>whnf
  refine⟨_,_,q,?_⟩;conv=>whnf
  intro _;conv=>whnf
  refine⟨⟨Nat,fun i=>[(1,.ref b1 0),(3,.ref b3 0),(4,.fn (.func 60) [] [.ref b3 0]),(28,.sl .any 3 (rowsO ops)),(29,.int .i64 (ops.length:Int)),(30,.int .i64 (i:Int))],
   fun i T=>Tx S1 T b3 ([kPol]++(ops.take i).map opT)∧i≤ops.length,fun i=>ops.length-i⟩,
   ⟨0,⟨rfl,rfl,rfl,⟨rfl,rfl⟩,congrArg (AV.int .i64) (by rw[rowsO_len]),rfl,trivial⟩,_,St.leW_refl _,hx,by omega⟩,?_⟩
  clear hx q;rintro(i:Nat) T ⟨hx,hi⟩;conv=>whnf
  refine split_of (fun hlt=>?_) (fun hlt=>?_)
  ·have hlt:i<ops.length:=by have:=of_decide_eq_true hlt;omega
   have hsn:(ops.take (i+1)).map opT=(ops.take i).map opT++[opT ops[i]]:=by
    have ht:ops.take (i+1)=ops.take i++[ops[i]]:=by simp[List.take_append_getElem]
    rw[ht,List.map_append];rfl
   have hll:((ops.take i).map opT).length=i:=by simp;omega
   have hgr:(rowsO ops)[(i:Int).toNat]? = some [.int .i64 ops[i].1,.str ops[i].2.1,.int .i64 ops[i].2.2]:=by simp[rowsO,hlt]
   have hopi:=hop ops[i] (List.getElem_mem hlt)
   generalize ops[i]=op at *;clear hK hQ;conv=>whnf
   refine⟨_,⟨by omega,hgr⟩,?_⟩
   conv=>whnf
   intro b6 hb6;conv=>whnf
   refine⟨_,_,St.upd_same _ _ _,?_⟩;conv=>whnf
   rw[St.upd_upd];refine⟨_,_,St.upd_same _ _ _,?_⟩;conv=>whnf
   refine(hopi _).mono ?_;rintro o S3 ⟨rfl,rfl⟩;conv=>whnf
   intro bb2 hbb2;conv=>whnf
   refine(say_ok ((hx.more hb6 _).more hbb2 (.tip 9 1 1)) [opT op] (by simp at hll ⊢;omega) _).mono ?_
   rintro o S' ⟨rfl,hx2⟩;have w1:IntKind.i64.wrap ((i:Int)+1)=((i+1:Nat):Int):=wrap_nat (by omega)
   conv=>whnf
   refine⟨i+1,⟨rfl,rfl,rfl,⟨rfl,rfl⟩,rfl,congrArg _ w1,trivial⟩,⟨_,St.leW_refl _,by rw[hsn,← List.append_assoc];exact hx2,by omega⟩,by show ops.length-(i+1)<ops.length-i;omega⟩
  ·have hlt:i=ops.length:=by have:=of_decide_eq_false hlt;omega
   subst hlt;rw[List.take_length] at hx;conv=>whnf
   refine hK _ _ ?_;clear hK hQ K;obtain⟨t,hx⟩:=hx;conv=>whnf
   refine⟨_,_,hx.at_,?_⟩;conv=>whnf
   refine Triple.use (hjoin _) (by exact⟨⟨rfl,rfl⟩,rfl,trivial⟩) ?_
   rintro o T ⟨rfl,rfl⟩;conv=>whnf
   exact⟨_,_,⟨rfl,rfl⟩,St.le_trans hle hx.le,AV.leS_refl _ _ _⟩
 have n3:¬ kind=3:=by simpa using hh
 rw[if_neg n3] at hjoin hK;conv=>whnf
 refine split_of (fun hh=>?_) (fun hh=>?_)
 ·have hh:kind=4:=by simpa using hh
  rw[if_pos hh] at hjoin hK;conv=>whnf
  refine⟨_,_,q13,?_⟩;conv=>whnf
  refine(hrowt _).mono ?_;rintro o S3 ⟨rfl,rfl⟩;conv=>whnf
  -- the first words: [kRup,rt] the list,2 how many
  intro bb hbb;conv=>whnf
  refine(Triple.weakS (say_ok (hfresh bb (.tip 9 1 2) hbb).1 ([kRup,rt]) (by simp) _) (hfresh bb (.tip 9 1 2) hbb).2).mono ?_
  rintro o S' ⟨rfl,hx⟩;rw[List.nil_append] at hx;have q:=hx.le _ _ q1;conv=>whnf
  refine⟨_,_,q,?_⟩;conv=>whnf
  refine(say_ok hx ids (by simp;omega) _).mono ?_
  rintro o S' ⟨rfl,hx⟩;have q:=hx.le _ _ q1;conv=>whnf
  refine hK _ _ ?_;clear hK hQ K;obtain⟨t,hx⟩:=hx;conv=>whnf
  refine⟨_,_,hx.at_,?_⟩;conv=>whnf
  refine Triple.use (hjoin _) (by exact⟨⟨rfl,rfl⟩,rfl,trivial⟩) ?_
  rintro o T ⟨rfl,rfl⟩;conv=>whnf
  exact⟨_,_,⟨rfl,rfl⟩,St.le_trans hle hx.le,AV.leS_refl _ _ _⟩
 have n4:¬ kind=4:=by simpa using hh
 rw[if_neg n4] at hjoin hK;conv=>whnf
 refine split_of (fun hh=>?_) (fun hh=>?_)
 ·have hh:kind=12:=by simpa using hh
  rw[if_pos hh] at hjoin hK;conv=>whnf
  -- the first words: [kE] the list,1 how many
  intro bb hbb;conv=>whnf
  refine(Triple.weakS (say_ok (hfresh bb (.tip 9 1 1) hbb).1 ([kE]) (by simp) _) (hfresh bb (.tip 9 1 1) hbb).2).mono ?_
  rintro o S' ⟨rfl,hx⟩;rw[List.nil_append] at hx;have q:=hx.le _ _ q1;conv=>whnf
  refine⟨_,_,q,?_⟩;conv=>whnf
  refine(say_ok hx ids (by simp;omega) _).mono ?_
  rintro o S' ⟨rfl,hx⟩;have q:=hx.le _ _ q1;conv=>whnf
  refine⟨_,_,q,?_⟩;conv=>whnf
  refine(hrowt _).mono ?_;rintro o S3 ⟨rfl,rfl⟩;conv=>whnf
  intro bb2 hbb2;conv=>whnf
  refine(say_ok (hx.more hbb2 (.tip 9 1 1)) [rt] (by simp;omega) _).mono ?_
  rintro o S' ⟨rfl,hx⟩;conv=>whnf
  refine hK _ _ ?_;clear hK hQ K;obtain⟨t,hx⟩:=hx;conv=>whnf
  refine⟨_,_,hx.at_,?_⟩;conv=>whnf
  refine Triple.use (hjoin _) (by exact⟨⟨rfl,rfl⟩,rfl,trivial⟩) ?_
  rintro o T ⟨rfl,rfl⟩;conv=>whnf
  exact⟨_,_,⟨rfl,rfl⟩,St.le_trans hle hx.le,AV.leS_refl _ _ _⟩
 have n12:¬ kind=12:=by simpa using hh
 rw[if_neg n12] at hjoin hK;conv=>whnf
 refine split_of (fun hh=>?_) (fun hh=>?_)
 ·have hh:kind=5:=by simpa using hh
  rw[if_pos hh] at hjoin hK;conv=>whnf
  -- the first words: [kSoli] the list,1 how many
  intro bb hbb;conv=>whnf
  refine(Triple.weakS (say_ok (hfresh bb (.tip 9 1 1) hbb).1 ([kSoli]) (by simp) _) (hfresh bb (.tip 9 1 1) hbb).2).mono ?_
  rintro o S' ⟨rfl,hx⟩;rw[List.nil_append] at hx;have q:=hx.le _ _ q1;conv=>whnf
  refine⟨_,_,q,?_⟩;conv=>whnf
  refine(hlt _).mono ?_;rintro o S3 ⟨rfl,rfl⟩;conv=>whnf
  refine(say_ok hx lt (by simp;omega) _).mono ?_
  rintro o S' ⟨rfl,hx⟩;conv=>whnf
  refine hK _ _ ?_;clear hK hQ K;obtain⟨t,hx⟩:=hx;conv=>whnf
  refine⟨_,_,hx.at_,?_⟩;conv=>whnf
  refine Triple.use (hjoin _) (by exact⟨⟨rfl,rfl⟩,rfl,trivial⟩) ?_
  rintro o T ⟨rfl,rfl⟩;conv=>whnf
  exact⟨_,_,⟨rfl,rfl⟩,St.le_trans hle hx.le,AV.leS_refl _ _ _⟩
 have n5:¬ kind=5:=by simpa using hh
 rw[if_neg n5] at hjoin hK;conv=>whnf
 refine split_of (fun hh=>?_) (fun hh=>?_)
 ·have hh:kind=11:=by simpa using hh
  rw[if_pos hh] at hjoin hK;conv=>whnf
  -- the first words: [kSolx] the list,1 how many
  intro bb hbb;conv=>whnf
  refine(Triple.weakS (say_ok (hfresh bb (.tip 9 1 1) hbb).1 ([kSolx]) (by simp) _) (hfresh bb (.tip 9 1 1) hbb).2).mono ?_
  rintro o S' ⟨rfl,hx⟩;rw[List.nil_append] at hx;have q:=hx.le _ _ q1;conv=>whnf
  refine⟨_,_,q,?_⟩;conv=>whnf
  refine(hlt _).mono ?_;rintro o S3 ⟨rfl,rfl⟩;conv=>whnf
  refine(say_ok hx lt (by simp;omega) _).mono ?_
  rintro o S' ⟨rfl,hx⟩;conv=>whnf
  refine hK _ _ ?_;clear hK hQ K;obtain⟨t,hx⟩:=hx;conv=>whnf
  refine⟨_,_,hx.at_,?_⟩;conv=>whnf
  refine Triple.use (hjoin _) (by exact⟨⟨rfl,rfl⟩,rfl,trivial⟩) ?_
  rintro o T ⟨rfl,rfl⟩;conv=>whnf
  exact⟨_,_,⟨rfl,rfl⟩,St.le_trans hle hx.le,AV.leS_refl _ _ _⟩
 have n11:¬ kind=11:=by simpa using hh
 rw[if_neg n11] at hjoin hK;conv=>whnf
 refine split_of (fun hh=>?_) (fun hh=>?_)
 ·have hh:kind=6:=by simpa using hh
  rw[if_pos hh] at hjoin hK;conv=>whnf
  -- the first words: [kDel,⟨#[105,100]⟩] the list,2 how many
  intro bb hbb;conv=>whnf
  refine(Triple.weakS (say_ok (hfresh bb (.tip 9 1 2) hbb).1 ([kDel,⟨#[105,100]⟩]) (by simp) _) (hfresh bb (.tip 9 1 2) hbb).2).mono ?_
  rintro o S' ⟨rfl,hx⟩;rw[List.nil_append] at hx;have q:=hx.le _ _ q1;conv=>whnf
  refine⟨_,_,q,?_⟩;conv=>whnf
  refine(say_ok hx ids (by simp;omega) _).mono ?_
  rintro o S' ⟨rfl,hx⟩;have q:=hx.le _ _ q1;conv=>whnf
  refine hK _ _ ?_;clear hK hQ K;obtain⟨t,hx⟩:=hx;conv=>whnf
  refine⟨_,_,hx.at_,?_⟩;conv=>whnf
  refine Triple.use (hjoin _) (by exact⟨⟨rfl,rfl⟩,rfl,trivial⟩) ?_
  rintro o T ⟨rfl,rfl⟩;conv=>whnf
  exact⟨_,_,⟨rfl,rfl⟩,St.le_trans hle hx.le,AV.leS_refl _ _ _⟩
 have n6:¬ kind=6:=by simpa using hh
 rw[if_neg n6] at hjoin hK;conv=>whnf
 refine split_of (fun hh=>?_) (fun hh=>?_)
 ·have hh:kind=7:=by simpa using hh
  rw[if_pos hh] at hjoin hK;conv=>whnf
  -- the first words: [kStar] the list,1 how many
  intro bb hbb;conv=>whnf
  refine(Triple.weakS (say_ok (hfresh bb (.tip 9 1 1) hbb).1 ([kStar]) (by simp) _) (hfresh bb (.tip 9 1 1) hbb).2).mono ?_
  rintro o S' ⟨rfl,hx⟩;rw[List.nil_append] at hx;have q:=hx.le _ _ q1;conv=>whnf
  refine hK _ _ ?_;clear hK hQ K;obtain⟨t,hx⟩:=hx;conv=>whnf
  refine⟨_,_,hx.at_,?_⟩;conv=>whnf
  refine Triple.use (hjoin _) (by exact⟨⟨rfl,rfl⟩,rfl,trivial⟩) ?_
  rintro o T ⟨rfl,rfl⟩;conv=>whnf
  exact⟨_,_,⟨rfl,rfl⟩,St.le_trans hle hx.le,AV.leS_refl _ _ _⟩
 have n7:¬ kind=7:=by simpa using hh
 rw[if_neg n7] at hjoin hK;conv=>whnf
 refine split_of (fun hh=>?_) (fun hh=>?_)
 ·have hh:kind=8:=by simpa using hh
  rw[if_pos hh] at hjoin hK;conv=>whnf
  -- the first words: [w8S] the list,1 how many
  intro bb hbb;conv=>whnf
  refine(Triple.weakS (say_ok (hfresh bb (.tip 9 1 1) hbb).1 ([w8S]) (by simp) _) (hfresh bb (.tip 9 1 1) hbb).2).mono ?_
  rintro o S' ⟨rfl,hx⟩;rw[List.nil_append] at hx;have q:=hx.le _ _ q1;conv=>whnf
  refine hK _ _ ?_;clear hK hQ K;obtain⟨t,hx⟩:=hx;conv=>whnf
  refine⟨_,_,hx.at_,?_⟩;conv=>whnf
  refine Triple.use (hjoin _) (by exact⟨⟨rfl,rfl⟩,rfl,trivial⟩) ?_
  rintro o T ⟨rfl,rfl⟩;conv=>whnf
  exact⟨_,_,⟨rfl,rfl⟩,St.le_trans hle hx.le,AV.leS_refl _ _ _⟩
 have n8:¬ kind=8:=by simpa using hh
 rw[if_neg n8] at hjoin hK;conv=>whnf
 refine split_of (fun hh=>?_) (fun hh=>?_)
 ·have hh:kind=9:=by simpa using hh
  rw[if_pos hh] at hjoin hK;conv=>whnf
  refine⟨_,_,q13,?_⟩;conv=>whnf
  refine(hends _).mono ?_;rintro o S3 ⟨rfl,rfl⟩;conv=>whnf
  -- the first words: [kConc,et] the list,2 how many
  intro bb hbb;conv=>whnf
  refine(Triple.weakS (say_ok (hfresh bb (.tip 9 1 2) hbb).1 ([kConc,et]) (by simp) _) (hfresh bb (.tip 9 1 2) hbb).2).mono ?_
  rintro o S' ⟨rfl,hx⟩;rw[List.nil_append] at hx;have q:=hx.le _ _ q1;conv=>whnf
  refine hK _ _ ?_;clear hK hQ K;obtain⟨t,hx⟩:=hx;conv=>whnf
  refine⟨_,_,hx.at_,?_⟩;conv=>whnf
  refine Triple.use (hjoin _) (by exact⟨⟨rfl,rfl⟩,rfl,trivial⟩) ?_
  rintro o T ⟨rfl,rfl⟩;conv=>whnf
  exact⟨_,_,⟨rfl,rfl⟩,St.le_trans hle hx.le,AV.leS_refl _ _ _⟩
 have n9:¬ kind=9:=by simpa using hh
 rw[if_neg n9] at hjoin hK;conv=>whnf
 refine split_of (fun hh=>?_) (fun hh=>?_)
 ·have hh:kind=10:=by simpa using hh
  rw[if_pos hh] at hjoin hK;conv=>whnf
  -- the first words: [w10S] the list,1 how many
  intro bb hbb;conv=>whnf
  refine(Triple.weakS (say_ok (hfresh bb (.tip 9 1 1) hbb).1 ([w10S]) (by simp) _) (hfresh bb (.tip 9 1 1) hbb).2).mono ?_
  rintro o S' ⟨rfl,hx⟩;rw[List.nil_append] at hx;have q:=hx.le _ _ q1;conv=>whnf
  refine hK _ _ ?_;clear hK hQ K;obtain⟨t,hx⟩:=hx;conv=>whnf
  refine⟨_,_,hx.at_,?_⟩;conv=>whnf
  refine Triple.use (hjoin _) (by exact⟨⟨rfl,rfl⟩,rfl,trivial⟩) ?_
  rintro o T ⟨rfl,rfl⟩;conv=>whnf
  exact⟨_,_,⟨rfl,rfl⟩,St.le_trans hle hx.le,AV.leS_refl _ _ _⟩
 have n10:¬ kind=10:=by simpa using hh
 rw[if_neg n10] at hjoin hK;conv=>whnf
 refine hK _ _ ?_;clear hK hQ K;conv=>whnf
 refine⟨_,_,qn,?_⟩;conv=>whnf
 refine Triple.use (hjoin _) (by exact⟨rfl,rfl,trivial⟩) ?_
 rintro o T ⟨rfl,rfl⟩;conv=>whnf
 exact⟨_,_,⟨rfl,rfl⟩,St.le_trans hle hle3,AV.leS_refl _ _ _⟩
theorem take_ext{α:Type}{a b:List α}{i:Nat}(ha:i<a.length)(hb:i<b.length)(h:a.take i=b.take i)(he:a[i]=b[i]):a.take (i+1)=b.take (i+1):=by
 have h1:a.take (i+1)=a.take i++[a[i]]:=by simp[List.take_append_getElem]
 have h2:b.take (i+1)=b.take i++[b[i]]:=by simp[List.take_append_getElem]
 rw[h1,h2,h,he]
theorem equalS_ok(a b:List ByteArray)(hlen:a.length≤1000000000)(S:St):Triple P (C G) 72 [.sl .any 1 (rowsS a),.sl .any 1 (rowsS b)] S fun o S'=>o=.ret (.bool (decide (a=b)))∧S'=S:=by
 -- slices.Equal[[]string,string] function,rowsS rows,[.str a[i]] the row of x,[.str b[i]] the row of y,1 cells of an element
 refine triple_of_awp (hT G) hm Tryz.func72 rfl (by decide +kernel) rfl (by decide +kernel) (by show 2≤_;decide +kernel) rfl ?_
 refine awp_seq2 fun K hK hQ=>?_
 conv=>whnf
 refine hK _ _ ?_;clear hK hQ K;refine awp_seq2 fun K hK hQ=>?_
 conv=>whnf
 intro _;conv=>whnf
 intro _;conv=>whnf
 refine split_of (fun hne=>?_) (fun hne=>?_)
 ·have hne:a.length≠b.length:=by
   intro hh;rw[rowsS_len,rowsS_len,hh] at hne;simp at hne
  rw[decide_eq_false (fun e=>hne (congrArg List.length e))] at hQ
  clear hK;conv=>whnf
  refine hQ _ _ _ (by simp) ?_
  conv=>whnf
  exact⟨_,_,⟨rfl,rfl⟩,St.le_refl _,AV.leS_refl _ _ _⟩
 have hne:a.length=b.length:=by
  by_cases hh:a.length=b.length
  ·exact hh
  ·exfalso;rw[rowsS_len,rowsS_len] at hne;simp at hne;omega
 conv=>whnf
 refine hK _ _ ?_;clear hK hQ K;refine awp_seq2 fun K hK hQ=>?_
 conv=>whnf
 intro _;conv=>whnf
 refine⟨⟨Nat,fun i=>[(0,.sl .any 1 (rowsS a)),(1,.sl .any 1 (rowsS b)),(12,.int .i64 (a.length:Int)),(13,.int .i64 (i:Int))],fun i S'=>S'=S∧i≤a.length∧a.take i=b.take i,fun i=>a.length-i⟩,
  ⟨0,⟨⟨rfl,rfl⟩,⟨rfl,rfl⟩,congrArg (AV.int .i64) (by rw[rowsS_len]),rfl,trivial⟩,_,St.leW_refl _,rfl,by omega,rfl⟩,?_⟩
 rintro(i:Nat) S' ⟨rfl,hi,he⟩;conv=>whnf
 refine split_of (fun hlt=>?_) (fun hlt=>?_)
 ·have hlt:i<a.length:=by have:=of_decide_eq_true hlt;omega
  have hltb:i<b.length:=by omega
  have ga:(rowsS a)[(i:Int).toNat]? = some [.str a[i]]:=by simp[rowsS,hlt]
  have gb:(rowsS b)[(i:Int).toNat]? = some [.str b[i]]:=by simp[rowsS,hltb]
  conv=>whnf
  refine⟨[],(.free 0 (.free 1 (.free 2 (.free 3 (.free 4 (.free 5 (.free 6 (.free 7 (.free 8 .done))))))))),_,by decide +kernel,?_,fun _ _ h=>⟨_,.inl rfl,h⟩⟩
  conv=>whnf
  refine⟨_,⟨by omega,ga⟩,?_⟩
  conv=>whnf
  refine⟨_,⟨by omega,gb⟩,?_⟩
  conv=>whnf
  refine split_of (fun hx=>?_) (fun hx=>?_)
  ·have hx:a[i]≠b[i]:=by intro e;rw[e] at hx;simp at hx
   rw[decide_eq_false (fun e=>hx (by subst e;rfl))] at hQ
   clear hK;conv=>whnf
   refine hQ _ _ _ (by simp) ?_
   conv=>whnf
   exact⟨_,_,⟨rfl,rfl⟩,St.le_refl _,AV.leS_refl _ _ _⟩
  ·have hx:a[i]=b[i]:=by simpa using hx
   clear hK hQ;have w1:IntKind.i64.wrap ((i:Int)+1)=((i+1:Nat):Int):=wrap_nat (by have:=hlen;omega)
   conv=>whnf
   exact⟨i+1,⟨⟨rfl,rfl⟩,⟨rfl,rfl⟩,rfl,congrArg _ w1,trivial⟩,⟨_,St.leW_refl _,rfl,by omega,take_ext hlt hltb he hx⟩,by show a.length-(i+1)<a.length-i;omega⟩
 ·have hlt:i=a.length:=by have:=of_decide_eq_false hlt;omega
  subst hlt;have hab:a=b:=by rw[List.take_length,List.take_of_length_le (by omega)] at he;exact he
  rw[decide_eq_true hab] at hK;conv=>whnf
  refine hK _ _ ?_;clear hK hQ K;conv=>whnf
  exact⟨_,_,⟨rfl,rfl⟩,St.le_refl _,AV.leS_refl _ _ _⟩
theorem equalI_ok(a b:List Int)(hlen:a.length≤1000000000)(S:St):Triple P (C G) 71 [.sl .any 1 (rowsI a),.sl .any 1 (rowsI b)] S fun o S'=>o=.ret (.bool (decide (a=b)))∧S'=S:=by
 -- slices.Equal[[]int,int] function,rowsI rows,[.int .i64 a[i]] the row of x,[.int .i64 b[i]] the row of y,1 cells of an element
 refine triple_of_awp (hT G) hm Tryz.func71 rfl (by decide +kernel) rfl (by decide +kernel) (by show 2≤_;decide +kernel) rfl ?_
 refine awp_seq2 fun K hK hQ=>?_
 conv=>whnf
 refine hK _ _ ?_;clear hK hQ K;refine awp_seq2 fun K hK hQ=>?_
 conv=>whnf
 intro _;conv=>whnf
 intro _;conv=>whnf
 refine split_of (fun hne=>?_) (fun hne=>?_)
 ·have hne:a.length≠b.length:=by
   intro hh;rw[rowsI_len,rowsI_len,hh] at hne;simp at hne
  rw[decide_eq_false (fun e=>hne (congrArg List.length e))] at hQ
  clear hK;conv=>whnf
  refine hQ _ _ _ (by simp) ?_
  conv=>whnf
  exact⟨_,_,⟨rfl,rfl⟩,St.le_refl _,AV.leS_refl _ _ _⟩
 have hne:a.length=b.length:=by
  by_cases hh:a.length=b.length
  ·exact hh
  ·exfalso;rw[rowsI_len,rowsI_len] at hne;simp at hne;omega
 conv=>whnf
 refine hK _ _ ?_;clear hK hQ K;refine awp_seq2 fun K hK hQ=>?_
 conv=>whnf
 intro _;conv=>whnf
 refine⟨⟨Nat,fun i=>[(0,.sl .any 1 (rowsI a)),(1,.sl .any 1 (rowsI b)),(12,.int .i64 (a.length:Int)),(13,.int .i64 (i:Int))],fun i S'=>S'=S∧i≤a.length∧a.take i=b.take i,fun i=>a.length-i⟩,
  ⟨0,⟨⟨rfl,rfl⟩,⟨rfl,rfl⟩,congrArg (AV.int .i64) (by rw[rowsI_len]),rfl,trivial⟩,_,St.leW_refl _,rfl,by omega,rfl⟩,?_⟩
 rintro(i:Nat) S' ⟨rfl,hi,he⟩;conv=>whnf
 refine split_of (fun hlt=>?_) (fun hlt=>?_)
 ·have hlt:i<a.length:=by have:=of_decide_eq_true hlt;omega
  have hltb:i<b.length:=by omega
  have ga:(rowsI a)[(i:Int).toNat]? = some [.int .i64 a[i]]:=by simp[rowsI,hlt]
  have gb:(rowsI b)[(i:Int).toNat]? = some [.int .i64 b[i]]:=by simp[rowsI,hltb]
  conv=>whnf
  refine⟨[],(.free 0 (.free 1 (.free 2 (.free 3 (.free 4 (.free 5 (.free 6 (.free 7 (.free 8 .done))))))))),_,by decide +kernel,?_,fun _ _ h=>⟨_,.inl rfl,h⟩⟩
  conv=>whnf
  refine⟨_,⟨by omega,ga⟩,?_⟩
  conv=>whnf
  refine⟨_,⟨by omega,gb⟩,?_⟩
  conv=>whnf
  refine split_of (fun hx=>?_) (fun hx=>?_)
  ·have hx:a[i]≠b[i]:=by intro e;rw[e] at hx;simp at hx
   rw[decide_eq_false (fun e=>hx (by subst e;rfl))] at hQ
   clear hK;conv=>whnf
   refine hQ _ _ _ (by simp) ?_
   conv=>whnf
   exact⟨_,_,⟨rfl,rfl⟩,St.le_refl _,AV.leS_refl _ _ _⟩
  ·have hx:a[i]=b[i]:=by simpa using hx
   clear hK hQ;have w1:IntKind.i64.wrap ((i:Int)+1)=((i+1:Nat):Int):=wrap_nat (by have:=hlen;omega)
   conv=>whnf
   exact⟨i+1,⟨⟨rfl,rfl⟩,⟨rfl,rfl⟩,rfl,congrArg _ w1,trivial⟩,⟨_,St.leW_refl _,rfl,by omega,take_ext hlt hltb he hx⟩,by show a.length-(i+1)<a.length-i;omega⟩
 ·have hlt:i=a.length:=by have:=of_decide_eq_false hlt;omega
  subst hlt;have hab:a=b:=by rw[List.take_length,List.take_of_length_le (by omega)] at he;exact he
  rw[decide_eq_true hab] at hK;conv=>whnf
  refine hK _ _ ?_;clear hK hQ K;conv=>whnf
  exact⟨_,_,⟨rfl,rfl⟩,St.le_refl _,AV.leS_refl _ _ _⟩
theorem equalP_ok(a b:List (ByteArray×Int))(hlen:a.length≤1000000000)(S:St):Triple P (C G) 70 [.sl .any 2 (rowsP a),.sl .any 2 (rowsP b)] S fun o S'=>o=.ret (.bool (decide (a=b)))∧S'=S:=by
 -- slices.Equal[[]hallmark/api.Piece,hallmark/api.Piece] function,rowsP rows,[.str a[i].1,.int .i64 a[i].2] the row of x,[.str b[i].1,.int .i64 b[i].2] the row of y,2 cells of an element
 refine triple_of_awp (hT G) hm Tryz.func70 rfl (by decide +kernel) rfl (by decide +kernel) (by show 2≤_;decide +kernel) rfl ?_
 refine awp_seq2 fun K hK hQ=>?_
 conv=>whnf
 refine hK _ _ ?_;clear hK hQ K;refine awp_seq2 fun K hK hQ=>?_
 conv=>whnf
 intro _;conv=>whnf
 intro _;conv=>whnf
 refine split_of (fun hne=>?_) (fun hne=>?_)
 ·have hne:a.length≠b.length:=by
   intro hh;rw[rowsP_len,rowsP_len,hh] at hne;simp at hne
  rw[decide_eq_false (fun e=>hne (congrArg List.length e))] at hQ
  clear hK;conv=>whnf
  refine hQ _ _ _ (by simp) ?_
  conv=>whnf
  exact⟨_,_,⟨rfl,rfl⟩,St.le_refl _,AV.leS_refl _ _ _⟩
 have hne:a.length=b.length:=by
  by_cases hh:a.length=b.length
  ·exact hh
  ·exfalso;rw[rowsP_len,rowsP_len] at hne;simp at hne;omega
 conv=>whnf
 refine hK _ _ ?_;clear hK hQ K;refine awp_seq2 fun K hK hQ=>?_
 conv=>whnf
 intro _;conv=>whnf
 refine⟨⟨Nat,fun i=>[(0,.sl .any 2 (rowsP a)),(1,.sl .any 2 (rowsP b)),(12,.int .i64 (a.length:Int)),(13,.int .i64 (i:Int))],fun i S'=>S'=S∧i≤a.length∧a.take i=b.take i,fun i=>a.length-i⟩,
  ⟨0,⟨⟨rfl,rfl⟩,⟨rfl,rfl⟩,congrArg (AV.int .i64) (by rw[rowsP_len]),rfl,trivial⟩,_,St.leW_refl _,rfl,by omega,rfl⟩,?_⟩
 rintro(i:Nat) S' ⟨rfl,hi,he⟩;conv=>whnf
 refine split_of (fun hlt=>?_) (fun hlt=>?_)
 ·have hlt:i<a.length:=by have:=of_decide_eq_true hlt;omega
  have hltb:i<b.length:=by omega
  have ga:(rowsP a)[(i:Int).toNat]? = some [.str a[i].1,.int .i64 a[i].2]:=by simp[rowsP,hlt]
  have gb:(rowsP b)[(i:Int).toNat]? = some [.str b[i].1,.int .i64 b[i].2]:=by simp[rowsP,hltb]
  conv=>whnf
  refine⟨[],(.free 0 (.free 1 (.free 2 (.free 3 (.free 4 (.free 5 (.free 6 (.free 7 (.free 8 .done))))))))),_,by decide +kernel,?_,fun _ _ h=>⟨_,.inl rfl,h⟩⟩
  conv=>whnf
  refine⟨_,⟨by omega,ga⟩,?_⟩
  conv=>whnf
  refine⟨_,⟨by omega,gb⟩,?_⟩
  conv=>whnf
  refine split_of (fun hx=>?_) (fun hx=>?_)
  ·have hx:a[i]≠b[i]:=by intro e;rw[e] at hx;simp at hx
   rw[decide_eq_false (fun e=>hx (by subst e;rfl))] at hQ
   clear hK;conv=>whnf
   refine hQ _ _ _ (by simp) ?_
   conv=>whnf
   exact⟨_,_,⟨rfl,rfl⟩,St.le_refl _,AV.leS_refl _ _ _⟩
  ·have hx:a[i]=b[i]:=by simp at hx;exact Prod.ext hx.1 hx.2
   clear hK hQ;have w1:IntKind.i64.wrap ((i:Int)+1)=((i+1:Nat):Int):=wrap_nat (by have:=hlen;omega)
   conv=>whnf
   exact⟨i+1,⟨⟨rfl,rfl⟩,⟨rfl,rfl⟩,rfl,congrArg _ w1,trivial⟩,⟨_,St.leW_refl _,rfl,by omega,take_ext hlt hltb he hx⟩,by show a.length-(i+1)<a.length-i;omega⟩
 ·have hlt:i=a.length:=by have:=of_decide_eq_false hlt;omega
  subst hlt;have hab:a=b:=by rw[List.take_length,List.take_of_length_le (by omega)] at he;exact he
  rw[decide_eq_true hab] at hK;conv=>whnf
  refine hK _ _ ?_;clear hK hQ K;conv=>whnf
  exact⟨_,_,⟨rfl,rfl⟩,St.le_refl _,AV.leS_refl _ _ _⟩
theorem equalO_ok(a b:List OpV)(hlen:a.length≤1000000000)(S:St):Triple P (C G) 69 [.sl .any 3 (rowsO a),.sl .any 3 (rowsO b)] S fun o S'=>o=.ret (.bool (decide (a=b)))∧S'=S:=by
 -- slices.Equal[[]hallmark/api.Op,hallmark/api.Op] function,rowsO rows,[.int .i64 a[i].1,.str a[i].2.1,.int .i64 a[i].2.2] the row of x,[.int .i64 b[i].1,.str b[i].2.1,.int .i64 b[i].2.2] the row of y,3 cells of an element
 refine triple_of_awp (hT G) hm Tryz.func69 rfl (by decide +kernel) rfl (by decide +kernel) (by show 2≤_;decide +kernel) rfl ?_
 refine awp_seq2 fun K hK hQ=>?_
 conv=>whnf
 refine hK _ _ ?_;clear hK hQ K;refine awp_seq2 fun K hK hQ=>?_
 conv=>whnf
 intro _;conv=>whnf
 intro _;conv=>whnf
 refine split_of (fun hne=>?_) (fun hne=>?_)
 ·have hne:a.length≠b.length:=by
   intro hh;rw[rowsO_len,rowsO_len,hh] at hne;simp at hne
  rw[decide_eq_false (fun e=>hne (congrArg List.length e))] at hQ
  clear hK;conv=>whnf
  refine hQ _ _ _ (by simp) ?_
  conv=>whnf
  exact⟨_,_,⟨rfl,rfl⟩,St.le_refl _,AV.leS_refl _ _ _⟩
 have hne:a.length=b.length:=by
  by_cases hh:a.length=b.length
  ·exact hh
  ·exfalso;rw[rowsO_len,rowsO_len] at hne;simp at hne;omega
 conv=>whnf
 refine hK _ _ ?_;clear hK hQ K;refine awp_seq2 fun K hK hQ=>?_
 conv=>whnf
 intro _;conv=>whnf
 refine⟨⟨Nat,fun i=>[(0,.sl .any 3 (rowsO a)),(1,.sl .any 3 (rowsO b)),(12,.int .i64 (a.length:Int)),(13,.int .i64 (i:Int))],fun i S'=>S'=S∧i≤a.length∧a.take i=b.take i,fun i=>a.length-i⟩,
  ⟨0,⟨⟨rfl,rfl⟩,⟨rfl,rfl⟩,congrArg (AV.int .i64) (by rw[rowsO_len]),rfl,trivial⟩,_,St.leW_refl _,rfl,by omega,rfl⟩,?_⟩
 rintro(i:Nat) S' ⟨rfl,hi,he⟩;conv=>whnf
 refine split_of (fun hlt=>?_) (fun hlt=>?_)
 ·have hlt:i<a.length:=by have:=of_decide_eq_true hlt;omega
  have hltb:i<b.length:=by omega
  have ga:(rowsO a)[(i:Int).toNat]? = some [.int .i64 a[i].1,.str a[i].2.1,.int .i64 a[i].2.2]:=by simp[rowsO,hlt]
  have gb:(rowsO b)[(i:Int).toNat]? = some [.int .i64 b[i].1,.str b[i].2.1,.int .i64 b[i].2.2]:=by simp[rowsO,hltb]
  conv=>whnf
  refine⟨[],(.free 0 (.free 1 (.free 2 (.free 3 (.free 4 (.free 5 (.free 6 (.free 7 (.free 8 .done))))))))),_,by decide +kernel,?_,fun _ _ h=>⟨_,.inl rfl,h⟩⟩
  conv=>whnf
  refine⟨_,⟨by omega,ga⟩,?_⟩
  conv=>whnf
  refine⟨_,⟨by omega,gb⟩,?_⟩
  conv=>whnf
  refine split_of (fun hx=>?_) (fun hx=>?_)
  ·have hx:a[i]≠b[i]:=by intro e;rw[e] at hx;simp at hx
   rw[decide_eq_false (fun e=>hx (by subst e;rfl))] at hQ
   clear hK;conv=>whnf
   refine hQ _ _ _ (by simp) ?_
   conv=>whnf
   exact⟨_,_,⟨rfl,rfl⟩,St.le_refl _,AV.leS_refl _ _ _⟩
  ·have hx:a[i]=b[i]:=by simp at hx;exact Prod.ext hx.1 (Prod.ext hx.2.1 hx.2.2)
   clear hK hQ;have w1:IntKind.i64.wrap ((i:Int)+1)=((i+1:Nat):Int):=wrap_nat (by have:=hlen;omega)
   conv=>whnf
   exact⟨i+1,⟨⟨rfl,rfl⟩,⟨rfl,rfl⟩,rfl,congrArg _ w1,trivial⟩,⟨_,St.leW_refl _,rfl,by omega,take_ext hlt hltb he hx⟩,by show a.length-(i+1)<a.length-i;omega⟩
 ·have hlt:i=a.length:=by have:=of_decide_eq_false hlt;omega
  subst hlt;have hab:a=b:=by rw[List.take_length,List.take_of_length_le (by omega)] at he;exact he
  rw[decide_eq_true hab] at hK;conv=>whnf
  refine hK _ _ ?_;clear hK hQ K;conv=>whnf
  exact⟨_,_,⟨rfl,rfl⟩,St.le_refl _,AV.leS_refl _ _ _⟩
section
variable {P:Program} {C:Cx} {ops:List Oper} {K:Env→St→Prop} {Qp:AV→St→Prop}
theorem aOps_append(l2:List Oper):∀ (l1:List Oper) (env:Env) (S:St),aOps P C ops (l1++l2) env S K Qp=aOps P C ops l1 env S (fun e s=>aOps P C ops l2 e s K Qp) Qp
 | [],env,S=>rfl
 | o::r,env,S=>by simp only[List.cons_append,aOps,aOps_append l2 r]
theorem aOps_cut(n:Nat){l:List Oper}{env:Env}{S:St}(h:∀ K',(∀ env' S',aOps P C ops (l.drop n) env' S' K Qp→K' env' S')→aOps P C ops (l.take n) env S K' Qp):aOps P C ops l env S K Qp:=by
 rw[← List.take_append_drop n l,aOps_append];exact h _ (fun _ _ h=>h)
theorem awp_region{id:Nat}{os:Array Oper}{env:Env}{S:St}{Q:AExit→Env→St→Prop}(h:aOps P C os.toList os.toList env S (fun e s=>Q .normal e s) (fun x s=>Q (.panic x) [] s)):awp P C (.region id os false) env S Q:=by
 unfold awp;exact h
end
theorem stepV_iff(a b:StepV):a=b↔(a.kind=b.kind∧a.num=b.num∧a.n6=b.n6∧a.s7=b.s7∧a.s8=b.s8∧a.bound=b.bound∧a.ops=b.ops∧a.pieces=b.pieces∧a.lits=b.lits∧a.ids=b.ids):=by
 cases a;cases b
 simp only[StepV.mk.injEq]
 constructor
 ·rintro⟨h1,h2,h3,h4,h5,h6,h7,h8,h9,h10⟩;exact⟨h1,h2,h8,h9,h10,h5,h3,h4,h6,h7⟩
 ·rintro⟨h1,h2,h8,h9,h10,h5,h3,h4,h6,h7⟩;exact⟨h1,h2,h3,h4,h5,h6,h7,h8,h9,h10⟩
instance:DecidableEq StepV:=fun a b=>decidable_of_iff _ (stepV_iff a b).symm
structure LenStep (v:StepV):Prop where
 ops:v.ops.length≤1000000000
 row:v.pieces.length≤1000000000
 lits:v.lits.length≤1000000000
 ids:v.ids.length≤1000000000
theorem same_step_ok(v v':StepV)(h:LenStep v)(S:St):Triple P (C G) 25 [stepAV v,stepAV v'] S fun o S'=>o=.ret (.bool (decide (v=v')))∧S'=S:=by
 have hO:=fun S=>equalO_ok (G:=G) v.ops v'.ops h.ops S
 have hP:=fun S=>equalP_ok (G:=G) v.pieces v'.pieces h.row S
 have hI:=fun S=>equalI_ok (G:=G) v.lits v'.lits h.lits S
 have hS:=fun S=>equalS_ok (G:=G) v.ids v'.ids h.ids S
 refine triple_of_awp (hT G) hm Tryz.func25 rfl (by decide +kernel) rfl (by decide +kernel) (by show 2≤_;decide +kernel) rfl ?_
 refine awp_seq2 fun K hK hQ=>?_
 conv=>whnf
 intro b2 hb2;conv=>whnf
 intro b3 hb3;conv=>whnf
 refine hK _ _ ?_;clear hK hQ K;have q2:((S.upd b2 (.obj 54 (stepR v))).upd b3 (.obj 54 (stepR v'))) b2=some (.obj 54 (stepR v)):=St.up hb3 (St.upd_same _ _ _);have q3:((S.upd b2 (.obj 54 (stepR v))).upd b3 (.obj 54 (stepR v'))) b3=some (.obj 54 (stepR v')):=St.upd_same _ _ _;have hle:St.le S ((S.upd b2 (.obj 54 (stepR v))).upd b3 (.obj 54 (stepR v'))):=St.le_upd' (St.le_upd' (St.le_refl _) hb2 _) hb3 _;refine awp_seq2 fun K hK hQ=>?_
 refine awp_region ?_;refine aOps_cut 5 fun K' hK'=>?_
 conv=>whnf
 refine⟨_,_,q2,?_⟩;conv=>whnf
 refine⟨_,_,q3,?_⟩;conv=>whnf
 by_cases hx:v.kind=v'.kind
 ·have g0:=hx
  rw[show(v.kind == v'.kind)=true from by simpa using hx]
  refine hK' _ _ ?_;clear hK' K';refine aOps_cut 7 fun K' hK'=>?_
  conv=>whnf
  refine⟨_,_,q2,?_⟩;conv=>whnf
  refine⟨_,_,q3,?_⟩;conv=>whnf
  by_cases hx:v.num=v'.num
  ·have g1:=hx
   rw[decide_eq_true hx];refine hK' _ _ ?_;clear hK' K';refine aOps_cut 7 fun K' hK'=>?_
   conv=>whnf
   refine⟨_,_,q2,?_⟩;conv=>whnf
   refine⟨_,_,q3,?_⟩;conv=>whnf
   by_cases hx:v.n6=v'.n6
   ·have g2:=hx
    rw[show(v.n6 == v'.n6)=true from by simpa using hx]
    refine hK' _ _ ?_;clear hK' K';refine aOps_cut 7 fun K' hK'=>?_
    conv=>whnf
    refine⟨_,_,q2,?_⟩;conv=>whnf
    refine⟨_,_,q3,?_⟩;conv=>whnf
    by_cases hx:v.s7=v'.s7
    ·have g3:=hx
     rw[decide_eq_true hx];refine hK' _ _ ?_;clear hK' K';refine aOps_cut 7 fun K' hK'=>?_
     conv=>whnf
     refine⟨_,_,q2,?_⟩;conv=>whnf
     refine⟨_,_,q3,?_⟩;conv=>whnf
     by_cases hx:v.s8=v'.s8
     ·have g4:=hx
      rw[decide_eq_true hx];refine hK' _ _ ?_;clear hK' K';refine aOps_cut 9 fun K' hK'=>?_
      conv=>whnf
      refine⟨_,_,q2,?_⟩;conv=>whnf
      refine⟨_,_,q3,?_⟩;conv=>whnf
      by_cases hx:v.bound=v'.bound
      ·have g5:=hx
       rw[decide_eq_true hx];refine hK' _ _ ?_;clear hK' K';refine aOps_cut 7 fun K' hK'=>?_
       conv=>whnf
       refine⟨_,_,q2,?_⟩;conv=>whnf
       refine⟨_,_,q3,?_⟩;conv=>whnf
       refine(hO _).mono ?_;rintro o T ⟨rfl,rfl⟩;conv=>whnf
       by_cases hx:v.ops=v'.ops
       ·have g6:=hx
        rw[decide_eq_true hx];refine hK' _ _ ?_;clear hK' K';refine aOps_cut 9 fun K' hK'=>?_
        conv=>whnf
        refine⟨_,_,q2,?_⟩;conv=>whnf
        refine⟨_,_,q3,?_⟩;conv=>whnf
        refine(hP _).mono ?_;rintro o T ⟨rfl,rfl⟩;conv=>whnf
        by_cases hx:v.pieces=v'.pieces
        ·have g7:=hx
         rw[decide_eq_true hx];refine hK' _ _ ?_;clear hK' K';refine aOps_cut 7 fun K' hK'=>?_
         conv=>whnf
         refine⟨_,_,q2,?_⟩;conv=>whnf
         refine⟨_,_,q3,?_⟩;conv=>whnf
         refine(hI _).mono ?_;rintro o T ⟨rfl,rfl⟩;conv=>whnf
         by_cases hx:v.lits=v'.lits
         ·have g8:=hx
          rw[decide_eq_true hx];refine hK' _ _ ?_;clear hK' K';refine aOps_cut 7 fun K' hK'=>?_
          conv=>whnf
          refine⟨_,_,q2,?_⟩;conv=>whnf
          refine⟨_,_,q3,?_⟩;conv=>whnf
          refine(hS _).mono ?_;rintro o T ⟨rfl,rfl⟩;conv=>whnf
          by_cases hx:v.ids=v'.ids
          ·have g9:=hx
           rw[decide_eq_true hx];refine hK' _ _ ?_;clear hK' K';refine aOps_cut 1 fun K' hK'=>?_
           conv=>whnf
           refine hK' _ _ ?_;clear hK' K';conv=>whnf
           refine hK _ _ ?_;clear hK hQ K;conv=>whnf
           exact⟨_,_,⟨by rw[decide_eq_true ((stepV_iff v v').2 ⟨g0,g1,g2,g3,g4,g5,g6,g7,g8,g9⟩)],rfl⟩,hle,AV.leS_refl _ _ _⟩
          ·rw[decide_eq_false hx];refine hK' _ _ ?_;clear hK' K';refine aOps_cut 1 fun K' hK'=>?_
           conv=>whnf
           refine hK' _ _ ?_;clear hK' K';conv=>whnf
           refine hK _ _ ?_;clear hK hQ K;conv=>whnf
           exact⟨_,_,⟨by rw[decide_eq_false (fun e=>hx (by rw[stepV_iff] at e;exact e.2.2.2.2.2.2.2.2.2))],rfl⟩,hle,AV.leS_refl _ _ _⟩
         ·rw[decide_eq_false hx];refine hK' _ _ ?_;clear hK' K';refine aOps_cut 7 fun K' hK'=>?_
          conv=>whnf
          refine hK' _ _ ?_;clear hK' K';refine aOps_cut 1 fun K' hK'=>?_
          conv=>whnf
          refine hK' _ _ ?_;clear hK' K';conv=>whnf
          refine hK _ _ ?_;clear hK hQ K;conv=>whnf
          exact⟨_,_,⟨by rw[decide_eq_false (fun e=>hx (by rw[stepV_iff] at e;exact e.2.2.2.2.2.2.2.2.1))],rfl⟩,hle,AV.leS_refl _ _ _⟩
        ·rw[decide_eq_false hx];refine hK' _ _ ?_;clear hK' K';refine aOps_cut 7 fun K' hK'=>?_
         conv=>whnf
         refine hK' _ _ ?_;clear hK' K';refine aOps_cut 7 fun K' hK'=>?_
         conv=>whnf
         refine hK' _ _ ?_;clear hK' K';refine aOps_cut 1 fun K' hK'=>?_
         conv=>whnf
         refine hK' _ _ ?_;clear hK' K';conv=>whnf
         refine hK _ _ ?_;clear hK hQ K;conv=>whnf
         exact⟨_,_,⟨by rw[decide_eq_false (fun e=>hx (by rw[stepV_iff] at e;exact e.2.2.2.2.2.2.2.1))],rfl⟩,hle,AV.leS_refl _ _ _⟩
       ·rw[decide_eq_false hx];refine hK' _ _ ?_;clear hK' K';refine aOps_cut 9 fun K' hK'=>?_
        conv=>whnf
        refine hK' _ _ ?_;clear hK' K';refine aOps_cut 7 fun K' hK'=>?_
        conv=>whnf
        refine hK' _ _ ?_;clear hK' K';refine aOps_cut 7 fun K' hK'=>?_
        conv=>whnf
        refine hK' _ _ ?_;clear hK' K';refine aOps_cut 1 fun K' hK'=>?_
        conv=>whnf
        refine hK' _ _ ?_;clear hK' K';conv=>whnf
        refine hK _ _ ?_;clear hK hQ K;conv=>whnf
        exact⟨_,_,⟨by rw[decide_eq_false (fun e=>hx (by rw[stepV_iff] at e;exact e.2.2.2.2.2.2.1))],rfl⟩,hle,AV.leS_refl _ _ _⟩
      ·rw[decide_eq_false hx];refine hK' _ _ ?_;clear hK' K';refine aOps_cut 7 fun K' hK'=>?_
       conv=>whnf
       refine hK' _ _ ?_;clear hK' K';refine aOps_cut 9 fun K' hK'=>?_
       conv=>whnf
       refine hK' _ _ ?_;clear hK' K';refine aOps_cut 7 fun K' hK'=>?_
       conv=>whnf
       refine hK' _ _ ?_;clear hK' K';refine aOps_cut 7 fun K' hK'=>?_
       conv=>whnf
       refine hK' _ _ ?_;clear hK' K';refine aOps_cut 1 fun K' hK'=>?_
       conv=>whnf
       refine hK' _ _ ?_;clear hK' K';conv=>whnf
       refine hK _ _ ?_;clear hK hQ K;conv=>whnf
       exact⟨_,_,⟨by rw[decide_eq_false (fun e=>hx (by rw[stepV_iff] at e;exact e.2.2.2.2.2.1))],rfl⟩,hle,AV.leS_refl _ _ _⟩
     ·rw[decide_eq_false hx];refine hK' _ _ ?_;clear hK' K';refine aOps_cut 9 fun K' hK'=>?_
      conv=>whnf
      refine hK' _ _ ?_;clear hK' K';refine aOps_cut 7 fun K' hK'=>?_
      conv=>whnf
      refine hK' _ _ ?_;clear hK' K';refine aOps_cut 9 fun K' hK'=>?_
      conv=>whnf
      refine hK' _ _ ?_;clear hK' K';refine aOps_cut 7 fun K' hK'=>?_
      conv=>whnf
      refine hK' _ _ ?_;clear hK' K';refine aOps_cut 7 fun K' hK'=>?_
      conv=>whnf
      refine hK' _ _ ?_;clear hK' K';refine aOps_cut 1 fun K' hK'=>?_
      conv=>whnf
      refine hK' _ _ ?_;clear hK' K';conv=>whnf
      refine hK _ _ ?_;clear hK hQ K;conv=>whnf
      exact⟨_,_,⟨by rw[decide_eq_false (fun e=>hx (by rw[stepV_iff] at e;exact e.2.2.2.2.1))],rfl⟩,hle,AV.leS_refl _ _ _⟩
    ·rw[decide_eq_false hx];refine hK' _ _ ?_;clear hK' K';refine aOps_cut 7 fun K' hK'=>?_
     conv=>whnf
     refine hK' _ _ ?_;clear hK' K';refine aOps_cut 9 fun K' hK'=>?_
     conv=>whnf
     refine hK' _ _ ?_;clear hK' K';refine aOps_cut 7 fun K' hK'=>?_
     conv=>whnf
     refine hK' _ _ ?_;clear hK' K';refine aOps_cut 9 fun K' hK'=>?_
     conv=>whnf
     refine hK' _ _ ?_;clear hK' K';refine aOps_cut 7 fun K' hK'=>?_
     conv=>whnf
     refine hK' _ _ ?_;clear hK' K';refine aOps_cut 7 fun K' hK'=>?_
     conv=>whnf
     refine hK' _ _ ?_;clear hK' K';refine aOps_cut 1 fun K' hK'=>?_
     conv=>whnf
     refine hK' _ _ ?_;clear hK' K';conv=>whnf
     refine hK _ _ ?_;clear hK hQ K;conv=>whnf
     exact⟨_,_,⟨by rw[decide_eq_false (fun e=>hx (by rw[stepV_iff] at e;exact e.2.2.2.1))],rfl⟩,hle,AV.leS_refl _ _ _⟩
   ·rw[show(v.n6 == v'.n6)=false from by simpa using hx]
    refine hK' _ _ ?_;clear hK' K';refine aOps_cut 7 fun K' hK'=>?_
    conv=>whnf
    refine hK' _ _ ?_;clear hK' K';refine aOps_cut 7 fun K' hK'=>?_
    conv=>whnf
    refine hK' _ _ ?_;clear hK' K';refine aOps_cut 9 fun K' hK'=>?_
    conv=>whnf
    refine hK' _ _ ?_;clear hK' K';refine aOps_cut 7 fun K' hK'=>?_
    conv=>whnf
    refine hK' _ _ ?_;clear hK' K';refine aOps_cut 9 fun K' hK'=>?_
    conv=>whnf
    refine hK' _ _ ?_;clear hK' K';refine aOps_cut 7 fun K' hK'=>?_
    conv=>whnf
    refine hK' _ _ ?_;clear hK' K';refine aOps_cut 7 fun K' hK'=>?_
    conv=>whnf
    refine hK' _ _ ?_;clear hK' K';refine aOps_cut 1 fun K' hK'=>?_
    conv=>whnf
    refine hK' _ _ ?_;clear hK' K';conv=>whnf
    refine hK _ _ ?_;clear hK hQ K;conv=>whnf
    exact⟨_,_,⟨by rw[decide_eq_false (fun e=>hx (by rw[stepV_iff] at e;exact e.2.2.1))],rfl⟩,hle,AV.leS_refl _ _ _⟩
  ·rw[decide_eq_false hx];refine hK' _ _ ?_;clear hK' K';refine aOps_cut 7 fun K' hK'=>?_
   conv=>whnf
   refine hK' _ _ ?_;clear hK' K';refine aOps_cut 7 fun K' hK'=>?_
   conv=>whnf
   refine hK' _ _ ?_;clear hK' K';refine aOps_cut 7 fun K' hK'=>?_
   conv=>whnf
   refine hK' _ _ ?_;clear hK' K';refine aOps_cut 9 fun K' hK'=>?_
   conv=>whnf
   refine hK' _ _ ?_;clear hK' K';refine aOps_cut 7 fun K' hK'=>?_
   conv=>whnf
   refine hK' _ _ ?_;clear hK' K';refine aOps_cut 9 fun K' hK'=>?_
   conv=>whnf
   refine hK' _ _ ?_;clear hK' K';refine aOps_cut 7 fun K' hK'=>?_
   conv=>whnf
   refine hK' _ _ ?_;clear hK' K';refine aOps_cut 7 fun K' hK'=>?_
   conv=>whnf
   refine hK' _ _ ?_;clear hK' K';refine aOps_cut 1 fun K' hK'=>?_
   conv=>whnf
   refine hK' _ _ ?_;clear hK' K';conv=>whnf
   refine hK _ _ ?_;clear hK hQ K;conv=>whnf
   exact⟨_,_,⟨by rw[decide_eq_false (fun e=>hx (by rw[stepV_iff] at e;exact e.2.1))],rfl⟩,hle,AV.leS_refl _ _ _⟩
 ·rw[show(v.kind == v'.kind)=false from by simpa using hx]
  refine hK' _ _ ?_;clear hK' K';refine aOps_cut 7 fun K' hK'=>?_
  conv=>whnf
  refine hK' _ _ ?_;clear hK' K';refine aOps_cut 7 fun K' hK'=>?_
  conv=>whnf
  refine hK' _ _ ?_;clear hK' K';refine aOps_cut 7 fun K' hK'=>?_
  conv=>whnf
  refine hK' _ _ ?_;clear hK' K';refine aOps_cut 7 fun K' hK'=>?_
  conv=>whnf
  refine hK' _ _ ?_;clear hK' K';refine aOps_cut 9 fun K' hK'=>?_
  conv=>whnf
  refine hK' _ _ ?_;clear hK' K';refine aOps_cut 7 fun K' hK'=>?_
  conv=>whnf
  refine hK' _ _ ?_;clear hK' K';refine aOps_cut 9 fun K' hK'=>?_
  conv=>whnf
  refine hK' _ _ ?_;clear hK' K';refine aOps_cut 7 fun K' hK'=>?_
  conv=>whnf
  refine hK' _ _ ?_;clear hK' K';refine aOps_cut 7 fun K' hK'=>?_
  conv=>whnf
  refine hK' _ _ ?_;clear hK' K';refine aOps_cut 1 fun K' hK'=>?_
  conv=>whnf
  refine hK' _ _ ?_;clear hK' K';conv=>whnf
  refine hK _ _ ?_;clear hK hQ K;conv=>whnf
  exact⟨_,_,⟨by rw[decide_eq_false (fun e=>hx (by rw[stepV_iff] at e;exact e.1))],rfl⟩,hle,AV.leS_refl _ _ _⟩
def hasNL(s:ByteArray):Bool:=decide (0≤Lib.indexByte s.data.toList 10)
theorem containsNL_ok(s:ByteArray)(S:St):Triple P (C G) 24 [.str s,.str ⟨#[10]⟩] S fun o S'=>o=.ret (.bool (hasNL s))∧S'=S:=by
 refine Triple.of_calls (x:=.bool (hasNL s)) Tryz.func24 rfl (by decide +kernel) (fun w vs hg hr=>?_) ⟨rfl,rfl⟩
 obtain⟨u,v,hv,r1,r2⟩:=RelL.two hr;simp only[Rel] at r1 r2;subst r1 r2;rw[show vs=#[.string s,.string ⟨#[10]⟩] from arr_of_list hv];refine(Tryz.strings_Contains_one s 10 w).mono fun e w' he=>?_
 obtain⟨rfl,rfl⟩:=he;exact⟨_,rfl,by simp only[Rel];rfl,Below.refl _ _⟩
def printP(v:StepV):ByteArray×Int:=if (parseP (textT v)).2=0∧hasNL (textT v)=false∧(parseP (textT v)).1=v then (textT v,0) else (ByteArray.empty,83)
theorem Print_ok(hG:GS G)(hA:GAs G)(v:StepV)(h:OkStep v)(ht:(textT v).size≤8999999)(hp':LenStep (parseP (textT v)).1)(S:St) :
 Triple P (C G) 10 [stepAV v] S fun o S'=>o=.ret (.tu [.str (printP v).1,.int .i64 (printP v).2])∧S'=S:=by
 have htx:=fun S=>text_ok hG.tab v h S
 have hpa:=fun S=>Parse_line_ok (G:=G) hG hA (textT v) ht S
 have hc:=fun S=>containsNL_ok (G:=G) (textT v) S
 have hsm:=fun S=>same_step_ok (G:=G) (parseP (textT v)).1 v hp' S
 unfold printP;generalize textT v=tx at *;generalize hnl:hasNL tx=nl at *;generalize (parseP tx).1=v2 at *;generalize (parseP tx).2=e at *;refine triple_of_awp (hT G) hm Tryz.func10 rfl (by decide +kernel) rfl (by decide +kernel) (by show 1≤_;decide +kernel) rfl ?_
 refine awp_seq2 fun K hK hQ=>?_
 conv=>whnf
 intro b1 hb1;conv=>whnf
 refine hK _ _ ?_;clear hK hQ K;have q1:=St.upd_same S b1 (.obj 54 (stepR v));have hle1:=St.le_upd' (St.le_refl S) hb1 (.obj 54 (stepR v));refine awp_seq2 fun K hK hQ=>?_
 conv=>whnf
 refine⟨_,_,q1,?_⟩;conv=>whnf
 refine(htx _).mono ?_;rintro o T ⟨rfl,rfl⟩;conv=>whnf
 refine hK _ _ ?_;clear hK hQ K;refine awp_seq2 fun K hK hQ=>?_
 conv=>whnf
 refine(hpa _).mono ?_;rintro o T ⟨rfl,rfl⟩;conv=>whnf
 intro b5 hb5;conv=>whnf
 refine⟨_,_,St.upd_same _ _ _,?_⟩;conv=>whnf
 rw[St.upd_upd];have q5:=St.upd_same (S.upd b1 (.obj 54 (stepR v))) b5 (.obj 54 (stepR v2));have q15:((S.upd b1 (.obj 54 (stepR v))).upd b5 (.obj 54 (stepR v2))) b1=some (.obj 54 (stepR v)):=St.up hb5 q1;have hle:=St.le_trans hle1 (St.le_upd' (St.le_refl _) hb5 (.obj 54 (stepR v2)))
 by_cases he:e=0
 ·subst he
  cases nl with
  | true=>
    rw[if_neg (by simp)] at hQ
    conv=>whnf
    refine(hc _).mono ?_;rintro o T ⟨rfl,rfl⟩;conv=>whnf
    refine hQ _ _ _ (by simp) ?_
    conv=>whnf
    exact⟨_,_,⟨rfl,rfl⟩,hle,AV.leS_refl _ _ _⟩
  | false=>
    by_cases hv:v2=v
    ·rw[if_pos ⟨rfl,rfl,hv⟩] at hK;rw[decide_eq_true hv] at hsm;conv=>whnf
     refine(hc _).mono ?_;rintro o T ⟨rfl,rfl⟩;conv=>whnf
     refine⟨_,_,q5,?_⟩;conv=>whnf
     refine⟨_,_,q15,?_⟩;conv=>whnf
     refine(hsm _).mono ?_;rintro o T ⟨rfl,rfl⟩;conv=>whnf
     refine hK _ _ ?_;clear hK hQ K;conv=>whnf
     exact⟨_,_,⟨rfl,rfl⟩,hle,AV.leS_refl _ _ _⟩
    ·rw[if_neg (fun h=>hv h.2.2)] at hQ
     rw[decide_eq_false hv] at hsm;conv=>whnf
     refine(hc _).mono ?_;rintro o T ⟨rfl,rfl⟩;conv=>whnf
     refine⟨_,_,q5,?_⟩;conv=>whnf
     refine⟨_,_,q15,?_⟩;conv=>whnf
     refine(hsm _).mono ?_;rintro o T ⟨rfl,rfl⟩;conv=>whnf
     refine hQ _ _ _ (by simp) ?_
     conv=>whnf
     exact⟨_,_,⟨rfl,rfl⟩,hle,AV.leS_refl _ _ _⟩
 ·rw[if_neg (fun h=>he h.1)] at hQ
  conv=>whnf
  refine split_of (fun _=>?_) (fun hh=>absurd (by simpa using hh) he)
  conv=>whnf
  refine hQ _ _ _ (by simp) ?_
  conv=>whnf
  exact⟨_,_,⟨rfl,rfl⟩,hle,AV.leS_refl _ _ _⟩
theorem num_ok(e:Int)(S:St):Triple P (C G) 11 [.int .i64 e] S fun o S'=>o=.ret (.int .i64 e)∧S'=S:=by
 refine triple_of_awp (hT G) hm Tryz.func11 rfl (by decide +kernel) rfl (by decide +kernel) (by show 1≤_;decide +kernel) rfl ?_
 conv=>whnf
 exact⟨_,_,⟨rfl,rfl⟩,St.le_refl _,AV.leS_refl _ _ _⟩
theorem idsG_len:∀ (ws ids:List ByteArray),(idsG ws ids).1.length≤ids.length+ws.length
 | [],ids=>by simp[idsG]
 | w::l,ids=>by
   unfold idsG
   split
   ·have:=idsG_len l (ids++[w]);simp at this ⊢;omega
   ·simp
theorem litsG_len:∀ (ws:List ByteArray) (ls:List Int),(litsG ws ls).1.length≤ls.length+ws.length
 | [],ls=>by simp[litsG]
 | w::l,ls=>by
   unfold litsG
   split
   ·simp
   ·have:=litsG_len l (ls++[litV w.data.toList]);simp at this ⊢;omega
theorem pieceG_len:∀ (ws:List ByteArray) (p:List (ByteArray×Int)),(pieceG ws p).1.length≤p.length+ws.length
 | [],p=>by simp[pieceG]
 | [w],p=>by
  unfold pieceG
  split
  ·simp
  ·split<;>simp
 | w::x::l,p=>by
   unfold pieceG
   split
   ·simp
   ·split
    ·split
     ·simp
     ·have:=pieceG_len l (p++[(w,litV x.data.toList)]);simp at this ⊢;omega
    ·simp
theorem polF_len:∀ (f:Nat) (ws:List ByteArray) (ops:List OpV),(polF f ws ops).1.length≤ops.length+ws.length
 | 0,ws,ops=>by simp[polF]
 | f+1,ws,ops=>by
   unfold polF
   split
   ·split
    ·rename_i h
     have h1:=opG_lt ws h
     have:=polF_len f (opG ws).2.2 (ops++[(opG ws).1])
     simp at this ⊢;omega
    ·simp
   ·simp
def LenN(v:StepV)(n:Nat):Prop:=v.ops.length≤n∧v.pieces.length≤n∧v.lits.length≤n∧v.ids.length≤n
theorem rowG_len(ws:List ByteArray)(v:StepV):(rowG ws v).2.2.ops=v.ops∧(rowG ws v).2.2.lits=v.lits∧(rowG ws v).2.2.pieces.length≤v.pieces.length+ws.length:=by
 have:=pieceG_len ws v.pieces
 unfold rowG boundG
 split
 ·split<;>exact⟨rfl,rfl,this⟩
 ·exact⟨rfl,rfl,this⟩
theorem LenN.zero(v:StepV)(n:Nat)(h1:v.ops=[])(h2:v.pieces=[])(h3:v.lits=[])(h4:v.ids.length≤n):LenN v n:=⟨by rw[h1];simp,by rw[h2];simp,by rw[h3];simp,h4⟩
theorem rupG_len(l:List ByteArray):LenN (rupG l zeroV).2.2 (l.length+2):=by
 obtain⟨h1,h2,h3⟩:=rowG_len l { zeroV with kind:=4 };have h4:=rowG_ids l { zeroV with kind:=4 };have h5:=(rowG_suffix l { zeroV with kind:=4 }).length_le;unfold rupG;generalize rowG l { zeroV with kind:=4 }=r at *;have e4:r.2.2.ids.length=0:=by rw[h4];rfl
 have h3':r.2.2.pieces.length≤l.length:=by simpa [zeroV] using h3
 split
 ·have h6:=idsG_len r.2.1 r.2.2.ids
  unfold withIds;exact⟨by show r.2.2.ops.length≤_;rw[h1];simp[zeroV],by show r.2.2.pieces.length≤_;omega,by show r.2.2.lits.length≤_;rw[h2];simp[zeroV],by show(idsG r.2.1 r.2.2.ids).1.length≤_;omega⟩
 ·exact⟨by rw[h1];simp[zeroV],by omega,by rw[h2];simp[zeroV],by omega⟩
theorem sameG_len(l:List ByteArray):LenN (sameG l zeroV).2.2 (l.length+2):=by
 have h0:=(numG_suffix 1 l).length_le
 unfold sameG
 split
 ·obtain⟨h1,h2,h3⟩:=rowG_len (numG 1 l).2.2 { zeroV with kind:=12,ids:=[(numG 1 l).1] };have h4:=rowG_ids (numG 1 l).2.2 { zeroV with kind:=12,ids:=[(numG 1 l).1] };refine⟨by rw[h1];simp[zeroV],?_,by rw[h2];simp[zeroV],by rw[h4];simp⟩
  exact Nat.le_trans h3 (by show 0+(numG 1 l).2.2.length≤_;omega)
 ·exact LenN.zero _ _ rfl rfl rfl (by simp[zeroV])
theorem delG_len(l:List ByteArray):LenN (delG l zeroV).2.2 (l.length+2):=by
 have h0:=(numG_suffix 1 (exactG l idWords).1).length_le
 have h1:=(exactG_suffix l idWords).length_le
 unfold delG
 split
 ·split
  ·have h6:=idsG_len (numG 1 (exactG l idWords).1).2.2 [(numG 1 (exactG l idWords).1).1]
   unfold withIds;refine LenN.zero _ _ rfl rfl rfl ?_
   show(idsG _ _).1.length≤_
   simp only[List.length_cons,List.length_nil] at h6;omega
  ·exact LenN.zero _ _ rfl rfl rfl (by simp[zeroV])
 ·exact LenN.zero _ _ rfl rfl rfl (by simp[zeroV])
theorem idG_len(l:List ByteArray)(v:StepV)(h1:v.ops=[])(h2:v.pieces=[])(h3:v.lits=[])(h4:v.ids=[])(n:Nat):LenN (idG l v).2.2 (n+1)∧(idG l v).2.2.ops=[]∧(idG l v).2.2.pieces=[]∧(idG l v).2.2.lits=[]:=by
 unfold idG
 split
 ·split
  ·exact⟨LenN.zero _ _ h1 h2 h3 (by simp),h1,h2,h3⟩
  ·exact⟨LenN.zero _ _ h1 h2 h3 (by rw[h4];simp),h1,h2,h3⟩
 ·exact⟨LenN.zero _ _ h1 h2 h3 (by rw[h4];simp),h1,h2,h3⟩
theorem conclG_len(l:List ByteArray):LenN (conclG l zeroV).2.2 (l.length+2):=by
 have z:∀ (v:StepV),v.ops=[]→v.pieces=[]→v.lits=[]→v.ids=[]→LenN v (l.length+2):=fun v h1 h2 h3 h4=>LenN.zero _ _ h1 h2 h3 (by rw[h4];simp)
 cases l with
 | nil=>exact z _ rfl rfl rfl rfl
 | cons w l=>
   unfold conclG;dsimp only
   split
   ·exact z _ rfl rfl rfl rfl
   split
   ·exact z _ rfl rfl rfl rfl
   split
   ·exact(idG_len _ _ rfl rfl rfl rfl _).1
   split
   ·unfold allG
    split
    ·split
     ·exact z _ rfl rfl rfl rfl
     ·exact(idG_len _ _ rfl rfl rfl rfl _).1
    ·exact z _ rfl rfl rfl rfl
   split
   ·unfold boundsG
    split
    ·have h:=idG_len (numG (-1) l).2.2 { zeroV with kind:=9,n6:=5,s7:=(numG (-1) l).1 } rfl rfl rfl rfl ((w::l).length+1)
     unfold upG
     split
     ·exact h.1
     ·exact h.1
    ·exact z _ rfl rfl rfl rfl
   ·exact z _ rfl rfl rfl rfl
theorem tabG_len{w:ByteArray}{f:List ByteArray→StepV→RetG}(h:tabG w=some f)(l:List ByteArray):LenN (f l zeroV).2.2 (l.length+2):=by
 have hz:∀ (v:StepV),v.ops=[]→v.pieces=[]→v.lits=[]→v.ids=[]→LenN v (l.length+2):=fun v h1 h2 h3 h4=>LenN.zero _ _ h1 h2 h3 (by rw[h4];simp)
 have hp:=polF_len (l.length+2) l []
 have hs:=litsG_len l []
 simp only[List.length_nil,Nat.zero_add] at hp hs;unfold tabG at h
 by_cases k1:w=kHead
 ·rw[if_pos k1] at h;cases h;exact hz _ rfl rfl rfl rfl
 rw[if_neg k1] at h
 by_cases k1:w=kF
 ·rw[if_pos k1] at h;cases h;exact hz _ rfl rfl rfl rfl
 rw[if_neg k1] at h
 by_cases k1:w=kPol
 ·rw[if_pos k1] at h;cases h;exact⟨by show(polF (l.length+2) l []).1.length≤_;omega,by show(0:Nat)≤_;omega,by show(0:Nat)≤_;omega,by show(0:Nat)≤_;omega⟩
 rw[if_neg k1] at h
 by_cases k1:w=kRup
 ·rw[if_pos k1] at h;cases h;exact rupG_len l
 rw[if_neg k1] at h
 by_cases k1:w=kSoli
 ·rw[if_pos k1] at h;cases h;exact⟨by show(0:Nat)≤_;omega,by show(0:Nat)≤_;omega,by show(litsG l []).1.length≤_;omega,by show(0:Nat)≤_;omega⟩
 rw[if_neg k1] at h
 by_cases k1:w=kSolx
 ·rw[if_pos k1] at h;cases h;exact⟨by show(0:Nat)≤_;omega,by show(0:Nat)≤_;omega,by show(litsG l []).1.length≤_;omega,by show(0:Nat)≤_;omega⟩
 rw[if_neg k1] at h
 by_cases k1:w=kE
 ·rw[if_pos k1] at h;cases h;exact sameG_len l
 rw[if_neg k1] at h
 by_cases k1:w=kDel
 ·rw[if_pos k1] at h;cases h;exact delG_len l
 rw[if_neg k1] at h
 by_cases k1:w=kStar
 ·rw[if_pos k1] at h;cases h;exact hz _ rfl rfl rfl rfl
 rw[if_neg k1] at h
 by_cases k1:w=kOut
 ·rw[if_pos k1] at h;cases h;exact hz _ rfl rfl rfl rfl
 rw[if_neg k1] at h
 by_cases k1:w=kConc
 ·rw[if_pos k1] at h;cases h;exact conclG_len l
 rw[if_neg k1] at h
 by_cases k1:w=kEnd
 ·rw[if_pos k1] at h;cases h;exact hz _ rfl rfl rfl rfl
 rw[if_neg k1] at h
 cases h
theorem parseW_len(ws:List ByteArray):LenN (parseW ws).1 (ws.length+2):=by
 cases ws with
 | nil=>exact LenN.zero _ _ rfl rfl rfl (by simp[parseW,zeroV])
 | cons w l=>
   unfold parseW;dsimp only
   cases h:tabG w with
   | none=>exact LenN.zero _ _ rfl rfl rfl (by simp[zeroV])
   | some f=>
     have:=tabG_len h l
     unfold finG;exact⟨Nat.le_trans this.1 (by simp),Nat.le_trans this.2.1 (by simp),Nat.le_trans this.2.2.1 (by simp),Nat.le_trans this.2.2.2 (by simp)⟩
theorem parseP_len(s:ByteArray)(hs:s.size≤8999999):LenStep (parseP s).1:=by
 unfold parseP;have h:=parseW_len (wordsL s);have hl:=wordsL_len s
 split
 ·exact⟨Nat.le_trans h.1 (by omega),Nat.le_trans h.2.1 (by omega),Nat.le_trans h.2.2.1 (by omega),Nat.le_trans h.2.2.2 (by omega)⟩
 ·exact⟨by show(0:Nat)≤_;omega,by show(0:Nat)≤_;omega,by show(0:Nat)≤_;omega,by show(0:Nat)≤_;omega⟩
def Code(e:Int):Prop:=e=0∨(80≤e∧e≤83)
theorem bytes_inj{a b:ByteArray}(h:a.data.toList=b.data.toList):a=b:=by
 obtain⟨⟨a⟩⟩:=a;obtain⟨⟨b⟩⟩:=b
 simp at h
 rw[h]
theorem hasNL_of{s:ByteArray}(h:∀ c∈s.data.toList,c≠10):hasNL s=false:=by
 unfold hasNL
 apply decide_eq_false
 generalize s.data.toList=l at *
 induction l with
 | nil=>simp[Lib.indexByte]
 | cons d l ih=>
   have hd:=h d (by simp)
   have ih:=ih fun c hc=>h c (by simp[hc])
   have hge:=Lib.indexByte_ge l 10
   simp only[Lib.indexByte]
   by_cases hi:Lib.indexByte l 10=-1
   ·simp[hd,hi]
   ·omega
theorem printP_zero{v:StepV}(h:(printP v).2=0):(printP v).1=textT v∧parseP (textT v)=(v,0)∧hasNL (textT v)=false:=by
 unfold printP at h ⊢
 by_cases hc:(parseP (textT v)).2=0∧hasNL (textT v)=false∧(parseP (textT v)).1=v
 ·rw[if_pos hc];exact⟨rfl,Prod.ext hc.2.2 hc.1,hc.2.1⟩
 ·rw[if_neg hc] at h;exact absurd h (by decide)
theorem printP_of{v:StepV}(h1:parseP (textT v)=(v,0))(h2:hasNL (textT v)=false):printP v=(textT v,0):=by
 unfold printP;rw[if_pos ⟨by rw[h1],h2,by rw[h1]⟩]
theorem printP_code(v:StepV):(printP v).2=0∨(printP v).2=83:=by
 unfold printP
 split
 ·exact .inl rfl
 ·exact .inr rfl
end Go.Proofs.YtogipknpafkfpaaGreatDoor.Aw

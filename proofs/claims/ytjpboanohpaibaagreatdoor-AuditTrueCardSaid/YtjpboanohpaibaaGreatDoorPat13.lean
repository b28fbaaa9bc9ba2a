/- Package proof's reader: ids, lits. Package proof's reader: row. Package proof's reader: the lines but pol and conclusion -/
import Derived.Test.YtjpboanohpaibaaGreatDoorPat9
import Derived.Test.YtjpboanohpaibaaGreatDoorPat11
import Derived.Test.YtjpboanohpaibaaGreatDoorPat12
set_option linter.all false
set_option maxRecDepth 100000
namespace Go.Proofs.YtjpboanohpaibaaGreatDoor.Aw
open Go Go.RowKit
variable {G:Nat→Option (List AV)}
def idsG:List ByteArray→List ByteArray→List ByteArray×Int×List ByteArray
 | [],ids=>(ids,0,[])
 | w::l,ids=>if isNumV w.data.toList 1 then idsG l (ids++[w]) else (ids,81,l)
theorem rowsS_snoc(l:List ByteArray)(x:ByteArray):rowsS l++[[AV.str x]]=rowsS (l++[x]):=by simp[rowsS]
theorem rowsI_snoc(l:List Int)(x:Int):rowsI l++[[AV.int .i64 x]]=rowsI (l++[x]):=by simp[rowsI]
theorem ids_ok{S₀ S:St}{rb:Nat}{ws:List ByteArray}{v:StepV}(h:Rdr S₀ S rb ws v)(hw:∀ w∈ws,w.size≤9000000)(hn:ws.length+v.ids.length≤10000000) :
 Triple P (C G) 148 [.ref rb 0] S fun o S'=>o=.ret (errAV (idsG ws v.ids).2.1)∧Rdr S₀ S' rb (idsG ws v.ids).2.2 { v with ids:=(idsG ws v.ids).1 }:=by
 refine triple_of_awp (hT G) hm Tryz.func148 rfl (by decide +kernel) rfl (by decide +kernel) (by show 1≤_;decide +kernel) rfl ?_
 conv=>whnf
 refine⟨⟨List ByteArray×List ByteArray,fun _=>[(0,.ref rb 0)],
  fun x S'=>Rdr S₀ S' rb x.1 { v with ids:=x.2 }∧idsG x.1 x.2=idsG ws v.ids∧x.1.length+x.2.length≤10000000∧∀ w∈x.1,w.size≤9000000,fun x=>x.1.length⟩,
  ⟨(ws,v.ids),⟨rfl,trivial⟩,⟨_,St.leW_refl _,h,rfl,hn,hw⟩⟩,?_⟩
 rintro⟨l,ids⟩ S₁ ⟨⟨t,hat⟩,h2,h3,h4⟩;dsimp only at hat h2 h3 h4;rw[← h2];have hcs:=hat.at_;conv=>whnf
 refine⟨_,_,hcs,?_⟩;conv=>whnf
 intro _
 cases l with
 | nil=>
   conv=>whnf
   exact⟨_,_,⟨rfl,t,hat⟩,St.le_refl _,AV.leS_refl _ _ _⟩
 | cons w l=>
   refine split_of (fun hlt=>?_) (fun hlt=>by simp[rowsS] at hlt)
   conv=>whnf
   refine(number_ok rb (w::l) _ 1 (by decide) (by decide) S₁ hcs h4).mono ?_
   rintro o S' ⟨rfl,rfl⟩;simp only[numG,idsG] at h2 ⊢
   cases hnum:isNumV w.data.toList 1 with
   | false=>
     rw[hnum] at h2;simp only[Bool.false_eq_true,if_false] at h2 ⊢;conv=>whnf
     exact⟨_,_,⟨rfl,t,hat.words⟩,St.le_refl _,AV.leS_refl _ _ _⟩
   | true=>
     rw[hnum] at h2;simp only[if_true] at h2 ⊢;have hat2:=hat.words (ws':=l);rw[show errAV 0=.nili from rfl];have hcs2:=hat2.at_;generalize S₁.upd rb (rdr l (stepC { v with ids:=ids } t))=S₂ at *;conv=>whnf
     refine⟨_,_,hcs2,?_⟩;conv=>whnf
     intro bb hbb;have hat3:=hat2.more hbb (.tip 9 1 1);conv=>whnf
     refine⟨⟨fun hl=>?_,?_⟩,fun S3 c1 c2 b' c3=>?_⟩
     ·have:0<ids.length:=by cases ids with
       | nil=>exact absurd rfl hl
       | cons _ _=>simp
      rw[rowsS_len];exact(hat3.t7 this).1
     ·show((rowsS ids).length+1)*16≤_
      rw[rowsS_len];simp at h3;omega
     have ha:AccStep (S₂.upd bb (.tip 9 1 1)) t.b7 9 1 ids.length 1 b' (S3.upd b' (.tip 9 1 (ids.length+1))):=.inr ⟨by simp,S3,fun e=>c1 (by rw[List.eq_nil_of_length_eq_zero e];rfl),fun e=>c2 (by cases ids<;>simp_all [rowsS]),c3,rfl⟩
     obtain⟨k1,k2⟩:=hat3.push7 ha (new:=[w]) rfl;rw[show rowsS ({ v with ids:=ids }:StepV).ids++[[AV.str w]]=rowsS (ids++[w]) from rowsS_snoc ids w,show(rowsS ({ v with ids:=ids }:StepV).ids).length=ids.length from rowsS_len ids];conv=>whnf
     refine⟨_,_,k1,?_⟩;conv=>whnf
     refine⟨(l,ids++[w]),⟨rfl,trivial⟩,⟨_,St.leW_refl _,⟨_,k2⟩,?_,by simp at h3 ⊢;omega,fun x hx=>h4 x (by simp[hx])⟩,by show l.length<l.length+1;omega⟩
     exact rfl
def litsG:List ByteArray→List Int→List Int×Int×List ByteArray
 | [],ls=>(ls,0,[])
 | w::l,ls=>if litV w.data.toList=0 then (ls,81,l) else litsG l (ls++[litV w.data.toList])
theorem lits_ok(hG:GS G){S₀ S:St}{rb:Nat}{ws:List ByteArray}{v:StepV}(h:Rdr S₀ S rb ws v)(hw:∀ w∈ws,w.size≤9000000)(hn:ws.length+v.lits.length≤10000000) :
 Triple P (C G) 149 [.ref rb 0] S fun o S'=>o=.ret (errAV (litsG ws v.lits).2.1)∧Rdr S₀ S' rb (litsG ws v.lits).2.2 { v with lits:=(litsG ws v.lits).1 }:=by
 refine triple_of_awp (hT G) hm Tryz.func149 rfl (by decide +kernel) rfl (by decide +kernel) (by show 1≤_;decide +kernel) rfl ?_
 conv=>whnf
 refine⟨⟨List ByteArray×List Int,fun _=>[(0,.ref rb 0)],
  fun x S'=>Rdr S₀ S' rb x.1 { v with lits:=x.2 }∧litsG x.1 x.2=litsG ws v.lits∧x.1.length+x.2.length≤10000000∧∀ w∈x.1,w.size≤9000000,fun x=>x.1.length⟩,
  ⟨(ws,v.lits),⟨rfl,trivial⟩,⟨_,St.leW_refl _,h,rfl,hn,hw⟩⟩,?_⟩
 rintro⟨l,ls⟩ S₁ ⟨⟨t,hat⟩,h2,h3,h4⟩;dsimp only at hat h2 h3 h4;rw[← h2];have hcs:=hat.at_;conv=>whnf
 refine⟨_,_,hcs,?_⟩;conv=>whnf
 intro _
 cases l with
 | nil=>
   conv=>whnf
   exact⟨_,_,⟨rfl,t,hat⟩,St.le_refl _,AV.leS_refl _ _ _⟩
 | cons w l=>
   refine split_of (fun hlt=>?_) (fun hlt=>by simp[rowsS] at hlt)
   conv=>whnf
   refine(rlit_ok hG rb (w::l) _ S₁ hcs h4).mono ?_;rintro o S' ⟨rfl,rfl⟩;simp only[rlitG,litsG] at h2 ⊢;generalize litV w.data.toList=z at *
   by_cases hz:z=0
   ·simp only[hz,if_true] at h2 ⊢;conv=>whnf
    exact⟨_,_,⟨rfl,t,hat.words⟩,St.le_refl _,AV.leS_refl _ _ _⟩
   ·simp only[if_neg hz] at h2 ⊢;have hat2:=hat.words (ws':=l);rw[show errAV 0=.nili from rfl];have hcs2:=hat2.at_;generalize S₁.upd rb (rdr l (stepC { v with lits:=ls } t))=S₂ at *;conv=>whnf
    refine⟨_,_,hcs2,?_⟩;conv=>whnf
    intro bb hbb;have hat3:=hat2.more hbb (.tip 3 1 1);conv=>whnf
    refine⟨⟨fun hl=>?_,?_⟩,fun S3 c1 c2 b' c3=>?_⟩
    ·have:0<ls.length:=by cases ls with
      | nil=>exact absurd rfl hl
      | cons _ _=>simp
     rw[rowsI_len];exact(hat3.t6 this).1
    ·show((rowsI ls).length+1)*8≤_
     rw[rowsI_len];simp at h3;omega
    have ha:AccStep (S₂.upd bb (.tip 3 1 1)) t.b6 3 1 ls.length 1 b' (S3.upd b' (.tip 3 1 (ls.length+1))):=.inr ⟨by simp,S3,fun e=>c1 (by rw[List.eq_nil_of_length_eq_zero e];rfl),fun e=>c2 (by cases ls<;>simp_all [rowsI]),c3,rfl⟩
    obtain⟨k1,k2⟩:=hat3.push6 ha (new:=[z]) rfl;rw[show rowsI ({ v with lits:=ls }:StepV).lits++[[AV.int .i64 z]]=rowsI (ls++[z]) from rowsI_snoc ls z,show(rowsI ({ v with lits:=ls }:StepV).lits).length=ls.length from rowsI_len ls];conv=>whnf
    refine⟨_,_,k1,?_⟩;conv=>whnf
    refine⟨(l,ls++[z]),⟨rfl,trivial⟩,⟨_,St.leW_refl _,⟨_,k2⟩,?_,by simp at h3 ⊢;omega,fun x hx=>h4 x (by simp[hx])⟩,by show l.length<l.length+1;omega⟩
    exact rfl
def geS:ByteArray:=⟨#[62,61]⟩
def semiS:ByteArray:=⟨#[59]⟩
def pieceG:List ByteArray→List (ByteArray×Int)→List (ByteArray×Int)×Int×List ByteArray
 | [],p=>(p,82,[])
 | [w],p=>if w=geS then (p,0,[w]) else if isNumV w.data.toList (-1) then (p,82,[]) else (p,81,[])
 | w::x::l,p=>if w=geS then (p,0,w::x::l) else if isNumV w.data.toList (-1) then (if litV x.data.toList=0 then (p,81,l) else pieceG l (p++[(w,litV x.data.toList)])) else (p,81,x::l)
def boundG(l:List ByteArray)(v:StepV):Int×List ByteArray×StepV:=
 if (numG (-1) l).2.1=0 then ((exactG (numG (-1) l).2.2 [semiS]).2,(exactG (numG (-1) l).2.2 [semiS]).1,{ v with bound:=(numG (-1) l).1 })
 else ((numG (-1) l).2.1,(numG (-1) l).2.2,{ v with bound:=(numG (-1) l).1 })
def rowG(ws:List ByteArray)(v:StepV):Int×List ByteArray×StepV:=
 if (pieceG ws v.pieces).2.1=0 then boundG (pieceG ws v.pieces).2.2.tail { v with pieces:=(pieceG ws v.pieces).1 }
 else ((pieceG ws v.pieces).2.1,(pieceG ws v.pieces).2.2,{ v with pieces:=(pieceG ws v.pieces).1 })
theorem rowsP_snoc(l:List (ByteArray×Int))(x:ByteArray×Int):rowsP l++[[AV.str x.1,AV.int .i64 x.2]]=rowsP (l++[x]):=by simp[rowsP]
theorem row_ok(hG:GS G){S₀ S:St}{rb:Nat}{ws:List ByteArray}{v:StepV}(h:Rdr S₀ S rb ws v)(hw:∀ w∈ws,w.size≤9000000)(hn:ws.length+v.pieces.length≤10000000) :
 Triple P (C G) 147 [.ref rb 0] S fun o S'=>o=.ret (errAV (rowG ws v).1)∧Rdr S₀ S' rb (rowG ws v).2.1 (rowG ws v).2.2:=by
 refine triple_of_awp (hT G) hm Tryz.func147 rfl (by decide +kernel) rfl (by decide +kernel) (by show 1≤_;decide +kernel) rfl ?_
 refine awp_seq2 fun K hK hQ=>?_
 conv=>whnf
 refine hK _ _ ?_;clear hK hQ K;refine awp_seq2 fun K hK hQ=>?_
 conv=>whnf
 refine⟨⟨List ByteArray×List (ByteArray×Int),fun _=>[(0,.ref rb 0)],
  fun x S'=>Rdr S₀ S' rb x.1 { v with pieces:=x.2 }∧pieceG x.1 x.2=pieceG ws v.pieces∧x.1.length+x.2.length≤10000000∧∀ w∈x.1,w.size≤9000000,fun x=>x.1.length⟩,
  ⟨(ws,v.pieces),⟨rfl,trivial⟩,⟨_,St.leW_refl _,h,rfl,hn,hw⟩⟩,?_⟩
 rintro⟨l,ps⟩ S₁ ⟨⟨t,hat⟩,h2,h3,h4⟩;dsimp only at hat h2 h3 h4;have hcs:=hat.at_;conv=>whnf
 refine(rnext_ok rb l _ geS S₁ hcs).mono ?_;rintro o T ⟨rfl,rfl⟩
 by_cases hge:l.head? = some geS
 ·obtain⟨l',rfl⟩:∃ l',l=geS::l':=by
   cases l with
   | nil=>cases hge
   | cons w l'=>simp only[List.head?_cons,Option.some.injEq] at hge;exact⟨l',by rw[hge]⟩
  rw[decide_eq_true hge];have hr:pieceG (geS::l') ps=(ps,0,geS::l'):=by cases l'<;>simp[pieceG]
  have hrow:rowG ws v=boundG l' { v with pieces:=ps }:=by
   unfold rowG;rw[← h2,hr];rfl
  rw[hrow] at hK hQ;clear h2 hrow;conv=>whnf
  refine hK _ _ ?_;clear hK hQ K;refine awp_seq2 fun K hK hQ=>?_
  conv=>whnf
  intro bb hbb;have hat2:=hat.more hbb (.tip 9 ((C G).T 9).size 1);conv=>whnf
  refine Triple.use (exactly_ok rb (geS::l') _ [geS] (by decide) _ hat2.at_) (by exact⟨rfl,⟨rfl,rfl⟩,trivial⟩) ?_
  rintro o S' ⟨rfl,rfl⟩;have hat3:=hat2.words (ws':=l');rw[show(exactG (geS::l') [geS]).2=0 by simp[exactG],show(exactG (geS::l') [geS]).1=l' by simp[exactG]]
  rw[show errAV 0=.nili from rfl];have hcs3:=hat3.at_;generalize (T.upd bb _).upd rb _=S3 at hat3 hcs3 ⊢;conv=>whnf
  refine hK _ _ ?_;clear hK hQ K;have hnum:=number_ok (G:=G) rb l' _ (-1) (by decide) (by decide) S3 hcs3 (fun x hx=>h4 x (by simp[hx]))
  have hat4:=hat3.words (ws':=(numG (-1) l').2.2)
  have hcs4:=hat4.at_
  unfold boundG;generalize hl2:(numG (-1) l').2.2=l2 at *;generalize (numG (-1) l').1=nb at *;generalize (numG (-1) l').2.1=ne at *;have hat5:=hat4.set (v':={ v with pieces:=ps,bound:=nb }) (ws':=l2) rfl rfl rfl rfl;have hcs5:=hat5.at_
  by_cases hn0:ne=0
  ·rw[if_pos hn0];subst hn0;refine awp_seq2 fun K hK hQ=>?_
   conv=>whnf
   refine hnum.mono ?_;rintro o S' ⟨rfl,rfl⟩;rw[show errAV 0=.nili from rfl];conv=>whnf
   refine hK _ _ ?_;clear hK hQ K;refine awp_seq2 fun K hK hQ=>?_
   conv=>whnf
   refine⟨_,_,hcs4,?_⟩;conv=>whnf
   refine hK _ _ ?_;clear hK hQ K;conv=>whnf
   intro b2 hb2;have hat6:=hat5.more hb2 (.tip 9 ((C G).T 9).size 1);conv=>whnf
   refine Triple.use (exactly_ok rb l2 _ [semiS] (by decide) _ hat6.at_) (by exact⟨rfl,⟨rfl,rfl⟩,trivial⟩) ?_
   rintro o S' ⟨rfl,rfl⟩;have hat7:=hat6.words (ws':=(exactG l2 [semiS]).1)
   by_cases he:(exactG l2 [semiS]).2=0
   ·simp only[errAV,if_pos he];conv=>whnf
    exact⟨_,_,⟨rfl,t,hat7⟩,St.le_refl _,AV.leS_refl _ _ _⟩
   ·simp only[errAV,if_neg he];conv=>whnf
    exact⟨_,_,⟨rfl,t,hat7⟩,St.le_refl _,AV.leS_refl _ _ _⟩
  ·rw[if_neg hn0];simp only[errAV,if_neg hn0] at hnum ⊢;refine awp_seq2 fun K hK hQ=>?_
   conv=>whnf
   refine hnum.mono ?_;rintro o S' ⟨rfl,rfl⟩;conv=>whnf
   refine hK _ _ ?_;clear hK hQ K;refine awp_seq2 fun K hK hQ=>?_
   conv=>whnf
   refine⟨_,_,hcs4,?_⟩;conv=>whnf
   refine hK _ _ ?_;clear hK hQ K;conv=>whnf
   exact⟨_,_,⟨rfl,t,hat5⟩,St.le_refl _,AV.leS_refl _ _ _⟩
 ·rw[decide_eq_false hge];clear hK
  cases l with
  | nil=>
    have hrow:rowG ws v=(82,[],{ v with pieces:=ps }):=by unfold rowG;rw[← h2];rfl
    rw[hrow] at hQ;conv=>whnf
    refine(number_ok rb [] _ (-1) (by decide) (by decide) T hcs h4).mono ?_
    rintro o S' ⟨rfl,rfl⟩;conv=>whnf
    refine hQ _ _ _ (by simp) ?_
    conv=>whnf
    exact⟨_,_,⟨rfl,t,hat.words⟩,St.le_refl _,AV.leS_refl _ _ _⟩
  | cons w l=>
    have hw0:¬ w=geS:=fun e=>hge (by simp[e])
    have hnum:=number_ok (G:=G) rb (w::l) _ (-1) (by decide) (by decide) T hcs h4
    simp only[numG] at hnum
    cases hiw:isNumV w.data.toList (-1) with
    | false=>
      have hr:pieceG (w::l) ps=(ps,81,l):=by cases l<;>simp[pieceG,hw0,hiw]
      have hrow:rowG ws v=(81,l,{ v with pieces:=ps }):=by unfold rowG;rw[← h2,hr];rfl
      rw[hrow] at hQ;simp only[hiw,Bool.false_eq_true,if_false] at hnum;conv=>whnf
      refine hnum.mono ?_;rintro o S' ⟨rfl,rfl⟩;conv=>whnf
      refine hQ _ _ _ (by simp) ?_
      conv=>whnf
      exact⟨_,_,⟨rfl,t,hat.words⟩,St.le_refl _,AV.leS_refl _ _ _⟩
    | true=>
      simp only[hiw,if_true] at hnum;have hat2:=hat.words (ws':=l);have hcs2:=hat2.at_;have h4':∀ x∈l,x.size≤9000000:=fun x hx=>h4 x (by simp[hx])
      have hlit:=rlit_ok hG rb l _ _ hcs2 h4'
      cases l with
      | nil=>
        have hr:pieceG [w] ps=(ps,82,[]):=by simp[pieceG,hw0,hiw]
        have hrow:rowG ws v=(82,[],{ v with pieces:=ps }):=by unfold rowG;rw[← h2,hr];rfl
        rw[hrow] at hQ;conv=>whnf
        refine hnum.mono ?_;rintro o S' ⟨rfl,rfl⟩;conv=>whnf
        refine hlit.mono ?_;rintro o S' ⟨rfl,rfl⟩;conv=>whnf
        refine hQ _ _ _ (by simp) ?_
        conv=>whnf
        exact⟨_,_,⟨rfl,t,hat2.words⟩,St.le_refl _,AV.leS_refl _ _ _⟩
      | cons x l=>
        have hat3:=hat2.words (ws':=l)
        have hcs3:=hat3.at_
        simp only[rlitG] at hlit;generalize hz:litV x.data.toList=z at *
        by_cases hz0:z=0
        ·have hr:pieceG (w::x::l) ps=(ps,81,l):=by simp[pieceG,hw0,hiw,hz,hz0]
         have hrow:rowG ws v=(81,l,{ v with pieces:=ps }):=by unfold rowG;rw[← h2,hr];rfl
         rw[hrow] at hQ;simp only[if_pos hz0] at hlit;conv=>whnf
         refine hnum.mono ?_;rintro o S' ⟨rfl,rfl⟩;conv=>whnf
         refine hlit.mono ?_;rintro o S' ⟨rfl,rfl⟩;conv=>whnf
         refine hQ _ _ _ (by simp) ?_
         conv=>whnf
         exact⟨_,_,⟨rfl,t,hat3⟩,St.le_refl _,AV.leS_refl _ _ _⟩
        ·have hr:pieceG (w::x::l) ps=pieceG l (ps++[(w,z)]):=by simp[pieceG,hw0,hiw,hz,hz0]
         simp only[if_neg hz0] at hlit;rw[hr] at h2;clear hQ;generalize (T.upd rb _).upd rb _=S3 at hat3 hcs3 hlit ⊢;conv=>whnf
         refine hnum.mono ?_;rintro o S' ⟨rfl,rfl⟩;conv=>whnf
         refine hlit.mono ?_;rintro o S' ⟨rfl,rfl⟩;rw[show errAV 0=.nili from rfl];conv=>whnf
         refine⟨_,_,hcs3,?_⟩;conv=>whnf
         intro bb hbb;have hat4:=hat3.more hbb (.tip 222 2 1);conv=>whnf
         refine⟨⟨fun hl=>?_,?_⟩,fun S4 c1 c2 b' c3=>?_⟩
         ·have:0<ps.length:=by cases ps with
           | nil=>exact absurd rfl hl
           | cons _ _=>simp
          rw[rowsP_len];exact(hat4.t4 this).1
         ·show((rowsP ps).length+1)*24≤_
          rw[rowsP_len];simp at h3;omega
         have ha:AccStep (_:St) t.b4 222 2 ps.length 1 b' (S4.upd b' (.tip 222 2 (ps.length+1))):=.inr ⟨by simp,S4,fun e=>c1 (by rw[List.eq_nil_of_length_eq_zero e];rfl),fun e=>c2 (by cases ps<;>simp_all [rowsP]),c3,rfl⟩
         obtain⟨k1,k2⟩:=hat4.push4 ha (new:=[(w,z)]) rfl;rw[show rowsP ({ v with pieces:=ps }:StepV).pieces++[[AV.str w,AV.int .i64 z]]=rowsP (ps++[(w,z)]) from rowsP_snoc ps (w,z),show(rowsP ({ v with pieces:=ps }:StepV).pieces).length=ps.length from rowsP_len ps];conv=>whnf
         refine⟨_,_,k1,?_⟩;conv=>whnf
         refine⟨(l,ps++[(w,z)]),⟨rfl,trivial⟩,⟨_,St.leW_refl _,⟨_,k2⟩,h2,by simp at h3 ⊢;omega,fun y hy=>h4 y (by simp[hy])⟩,by show l.length<l.length+1+1;omega⟩
def OkW(ws:List ByteArray):Prop:=(∀ w∈ws,w.size≤9000000)∧ws.length≤9000000
def OkV(v:StepV):Prop:=v.ops.length≤10∧v.pieces.length≤10∧v.lits.length≤10∧v.ids.length≤10
theorem OkW.suffix{a b:List ByteArray}(h:OkW b)(hs:a <:+ b):OkW a:=⟨fun w hw=>h.1 w (hs.mem hw),Nat.le_trans hs.length_le h.2⟩
theorem exactG_suffix:∀ (l xs:List ByteArray),(exactG l xs).1 <:+ l
 | l,[]=>by cases l<;>exact List.suffix_refl _
 | [],_::_=>List.suffix_refl _
 | w::l,x::xs=>by
   unfold exactG
   split
   ·exact(exactG_suffix l xs).trans (List.suffix_cons _ _)
   ·exact List.suffix_cons _ _
theorem numG_suffix(low:Int):∀ l:List ByteArray,(numG low l).2.2 <:+ l
 | []=>List.suffix_refl _
 | w::l=>by
   simp only[numG]
   split<;>exact List.suffix_cons _ _
theorem pieceG_suffix:∀ (l:List ByteArray) (p:List (ByteArray×Int)),(pieceG l p).2.2 <:+ l
 | [],p=>List.suffix_refl _
 | [w],p=>by
  unfold pieceG
  split
  ·exact List.suffix_refl _
  ·split<;>exact List.suffix_cons _ _
 | w::x::l,p=>by
   unfold pieceG
   split
   ·exact List.suffix_refl _
   ·split
    ·split
     ·exact(List.suffix_cons _ _).trans (List.suffix_cons _ _)
     ·exact(pieceG_suffix l _).trans ((List.suffix_cons _ _).trans (List.suffix_cons _ _))
    ·exact List.suffix_cons _ _
theorem rowG_suffix(ws:List ByteArray)(v:StepV):(rowG ws v).2.1 <:+ ws:=by
 unfold rowG;have h:=pieceG_suffix ws v.pieces
 split
 ·unfold boundG;have h1:=(List.tail_suffix (pieceG ws v.pieces).2.2).trans h;have h2:=(numG_suffix (-1) (pieceG ws v.pieces).2.2.tail).trans h1
  split
  ·exact(exactG_suffix _ _).trans h2
  ·exact h2
 ·exact h
theorem rowG_ids(ws:List ByteArray)(v:StepV):(rowG ws v).2.2.ids=v.ids:=by
 unfold rowG boundG
 split
 ·split<;>rfl
 ·rfl
abbrev RetG:=Int×List ByteArray×StepV
def fixG(k:Int)(xs ws:List ByteArray)(v:StepV):RetG:=((exactG ws xs).2,(exactG ws xs).1,{ v with kind:=k })
def headWords:List ByteArray:=[⟨#[112,114,111,111,102]⟩,⟨#[118,101,114,115,105,111,110]⟩,⟨#[50,46,48]⟩]
def outputWords:List ByteArray:=[⟨#[78,79,78,69]⟩]
def lastWords:List ByteArray:=[⟨#[112,115,101,117,100,111,45,66,111,111,108,101,97,110]⟩,⟨#[112,114,111,111,102]⟩]
theorem head_ok{S₀ S:St}{rb:Nat}{ws:List ByteArray}{v:StepV}(h:Rdr S₀ S rb ws v) :
 Triple P (C G) 114 [.ref rb 0] S fun o S'=>o=.ret (errAV (fixG 1 headWords ws v).1)∧Rdr S₀ S' rb (fixG 1 headWords ws v).2.1 (fixG 1 headWords ws v).2.2:=by
 obtain⟨t,hat⟩:=h;have hcs:=hat.at_;have hat2:=hat.set (v':={ v with kind:=1 }) (ws':=ws) rfl rfl rfl rfl;refine triple_of_awp (hT G) hm Tryz.func114 rfl (by decide +kernel) rfl (by decide +kernel) (by show 1≤_;decide +kernel) rfl ?_
 conv=>whnf
 refine⟨_,_,hcs,?_⟩;conv=>whnf
 intro bb hbb;have hat3:=hat2.more hbb (.tip 9 ((C G).T 9).size 3);conv=>whnf
 refine Triple.use (exactly_ok rb ws _ headWords (by decide) _ hat3.at_) (by exact⟨rfl,⟨rfl,rfl⟩,trivial⟩) ?_
 rintro o S' ⟨rfl,rfl⟩;have hat4:=hat3.words (ws':=(exactG ws headWords).1);unfold fixG
 by_cases he:(exactG ws headWords).2=0
 ·simp only[errAV,if_pos he];conv=>whnf
  exact⟨_,_,⟨rfl,t,hat4⟩,St.le_refl _,AV.leS_refl _ _ _⟩
 ·simp only[errAV,if_neg he];conv=>whnf
  exact⟨_,_,⟨rfl,t,hat4⟩,St.le_refl _,AV.leS_refl _ _ _⟩
theorem output_ok{S₀ S:St}{rb:Nat}{ws:List ByteArray}{v:StepV}(h:Rdr S₀ S rb ws v) :
 Triple P (C G) 123 [.ref rb 0] S fun o S'=>o=.ret (errAV (fixG 8 outputWords ws v).1)∧Rdr S₀ S' rb (fixG 8 outputWords ws v).2.1 (fixG 8 outputWords ws v).2.2:=by
 obtain⟨t,hat⟩:=h;have hcs:=hat.at_;have hat2:=hat.set (v':={ v with kind:=8 }) (ws':=ws) rfl rfl rfl rfl;refine triple_of_awp (hT G) hm Tryz.func123 rfl (by decide +kernel) rfl (by decide +kernel) (by show 1≤_;decide +kernel) rfl ?_
 conv=>whnf
 refine⟨_,_,hcs,?_⟩;conv=>whnf
 intro bb hbb;have hat3:=hat2.more hbb (.tip 9 ((C G).T 9).size 1);conv=>whnf
 refine Triple.use (exactly_ok rb ws _ outputWords (by decide) _ hat3.at_) (by exact⟨rfl,⟨rfl,rfl⟩,trivial⟩) ?_
 rintro o S' ⟨rfl,rfl⟩;have hat4:=hat3.words (ws':=(exactG ws outputWords).1);unfold fixG
 by_cases he:(exactG ws outputWords).2=0
 ·simp only[errAV,if_pos he];conv=>whnf
  exact⟨_,_,⟨rfl,t,hat4⟩,St.le_refl _,AV.leS_refl _ _ _⟩
 ·simp only[errAV,if_neg he];conv=>whnf
  exact⟨_,_,⟨rfl,t,hat4⟩,St.le_refl _,AV.leS_refl _ _ _⟩
theorem last_ok{S₀ S:St}{rb:Nat}{ws:List ByteArray}{v:StepV}(h:Rdr S₀ S rb ws v) :
 Triple P (C G) 125 [.ref rb 0] S fun o S'=>o=.ret (errAV (fixG 10 lastWords ws v).1)∧Rdr S₀ S' rb (fixG 10 lastWords ws v).2.1 (fixG 10 lastWords ws v).2.2:=by
 obtain⟨t,hat⟩:=h;have hcs:=hat.at_;have hat2:=hat.set (v':={ v with kind:=10 }) (ws':=ws) rfl rfl rfl rfl;refine triple_of_awp (hT G) hm Tryz.func125 rfl (by decide +kernel) rfl (by decide +kernel) (by show 1≤_;decide +kernel) rfl ?_
 conv=>whnf
 refine⟨_,_,hcs,?_⟩;conv=>whnf
 intro bb hbb;have hat3:=hat2.more hbb (.tip 9 ((C G).T 9).size 2);conv=>whnf
 refine Triple.use (exactly_ok rb ws _ lastWords (by decide) _ hat3.at_) (by exact⟨rfl,⟨rfl,rfl⟩,trivial⟩) ?_
 rintro o S' ⟨rfl,rfl⟩;have hat4:=hat3.words (ws':=(exactG ws lastWords).1);unfold fixG
 by_cases he:(exactG ws lastWords).2=0
 ·simp only[errAV,if_pos he];conv=>whnf
  exact⟨_,_,⟨rfl,t,hat4⟩,St.le_refl _,AV.leS_refl _ _ _⟩
 ·simp only[errAV,if_neg he];conv=>whnf
  exact⟨_,_,⟨rfl,t,hat4⟩,St.le_refl _,AV.leS_refl _ _ _⟩
def noteG(ws:List ByteArray)(v:StepV):RetG:=(0,[],{ v with kind:=7 })
theorem note_ok{S₀ S:St}{rb:Nat}{ws:List ByteArray}{v:StepV}(h:Rdr S₀ S rb ws v) :
 Triple P (C G) 122 [.ref rb 0] S fun o S'=>o=.ret (errAV (noteG ws v).1)∧Rdr S₀ S' rb (noteG ws v).2.1 (noteG ws v).2.2:=by
 obtain⟨t,hat⟩:=h;have hcs:=hat.at_;have hn:Triple P (C G) 122 [.ref rb 0] S fun o S'=>o=.ret .nili∧S'=S.upd rb (.obj 136 (.nils::stepC { v with kind:=7 } t)):=by
  refine triple_of_awp (hT G) hm Tryz.func122 rfl (by decide +kernel) rfl (by decide +kernel) (by show 1≤_;decide +kernel) rfl ?_
  conv=>whnf
  refine⟨_,_,hcs,?_⟩;conv=>whnf
  refine⟨_,_,St.upd_same _ _ _,?_⟩;conv=>whnf
  refine⟨_,_,⟨rfl,rfl⟩,?_,AV.leS_refl _ _ _⟩;rw[St.upd_upd];exact St.le_refl _
 refine Triple.lessW hn ?_;rintro o S' ⟨rfl,rfl⟩;refine⟨_,⟨rfl,t,hat.set (v':={ v with kind:=7 }) (ws':=[]) rfl rfl rfl rfl⟩,?_⟩;have:=St.leW_upd (cs':=.sl .any 1 (rowsS [])::stepC { v with kind:=7 } t) (St.upd_same S rb (.obj 136 (.nils::stepC { v with kind:=7 } t))) ⟨rfl,leL_refl _⟩
 rwa [St.upd_upd] at this
def moreR(ws:List ByteArray)(e:Int):Bool:=decide (e=0) && decide (ws≠[])
def restE(ws:List ByteArray)(e:Int):Int:=if e=0∧ws≠[] then 80 else e
def countG(ws:List ByteArray)(v:StepV):RetG:=((numG 0 ws).2.1,(numG 0 ws).2.2,{ v with kind:=2,num:=(numG 0 ws).1 })
theorem count_ok{S₀ S:St}{rb:Nat}{ws:List ByteArray}{v:StepV}(h:Rdr S₀ S rb ws v)(hw:OkW ws) :
 Triple P (C G) 115 [.ref rb 0] S fun o S'=>o=.ret (errAV (countG ws v).1)∧Rdr S₀ S' rb (countG ws v).2.1 (countG ws v).2.2:=by
 obtain⟨t,hat⟩:=h;have hcs:=hat.at_;have hat2:=hat.set (v':={ v with kind:=2 }) (ws':=ws) rfl rfl rfl rfl;have hnum:=number_ok (G:=G) rb ws _ 0 (by decide) (by decide) _ hat2.at_ hw.1
 have hat3:=hat2.words (ws':=(numG 0 ws).2.2)
 unfold countG;generalize (numG 0 ws).2.2=l2 at *;generalize (numG 0 ws).1=n at *;generalize (numG 0 ws).2.1=e at *;have hat4:=hat3.set (v':={ v with kind:=2,num:=n }) (ws':=l2) rfl rfl rfl rfl;have hcs3:=hat3.at_
 by_cases he:e=0
 ·simp only[errAV,if_pos he] at hnum ⊢;refine triple_of_awp (hT G) hm Tryz.func115 rfl (by decide +kernel) rfl (by decide +kernel) (by show 1≤_;decide +kernel) rfl ?_
  conv=>whnf
  refine⟨_,_,hcs,?_⟩;conv=>whnf
  refine hnum.mono ?_;rintro o S' ⟨rfl,rfl⟩;conv=>whnf
  refine⟨_,_,hcs3,?_⟩;conv=>whnf
  exact⟨_,_,⟨rfl,t,hat4⟩,St.le_refl _,AV.leS_refl _ _ _⟩
 ·simp only[errAV,if_neg he] at hnum ⊢;refine triple_of_awp (hT G) hm Tryz.func115 rfl (by decide +kernel) rfl (by decide +kernel) (by show 1≤_;decide +kernel) rfl ?_
  conv=>whnf
  refine⟨_,_,hcs,?_⟩;conv=>whnf
  refine hnum.mono ?_;rintro o S' ⟨rfl,rfl⟩;conv=>whnf
  refine⟨_,_,hcs3,?_⟩;conv=>whnf
  exact⟨_,_,⟨rfl,t,hat4⟩,St.le_refl _,AV.leS_refl _ _ _⟩
def solG(k:Int)(ws:List ByteArray)(v:StepV):RetG:=((litsG ws v.lits).2.1,(litsG ws v.lits).2.2,{ v with kind:=k,lits:=(litsG ws v.lits).1 })
theorem soli_ok(hG:GS G){S₀ S:St}{rb:Nat}{ws:List ByteArray}{v:StepV}(h:Rdr S₀ S rb ws v)(hw:OkW ws)(hv:OkV v) :
 Triple P (C G) 118 [.ref rb 0] S fun o S'=>o=.ret (errAV (solG 5 ws v).1)∧Rdr S₀ S' rb (solG 5 ws v).2.1 (solG 5 ws v).2.2:=by
 obtain⟨t,hat⟩:=h;have hcs:=hat.at_;have hat2:=hat.set (v':={ v with kind:=5 }) (ws':=ws) rfl rfl rfl rfl;have hl:=lits_ok (G:=G) hG ⟨t,hat2⟩ hw.1 (by have:=hw.2;have:=hv.2.2.1;show ws.length+v.lits.length≤_;omega)
 unfold solG;refine triple_of_awp (hT G) hm Tryz.func118 rfl (by decide +kernel) rfl (by decide +kernel) (by show 1≤_;decide +kernel) rfl ?_
 conv=>whnf
 refine⟨_,_,hcs,?_⟩;conv=>whnf
 refine hl.mono ?_;rintro o S' ⟨rfl,hr⟩
 by_cases he:(litsG ws v.lits).2.1=0
 ·simp only[errAV,if_pos he];conv=>whnf
  exact⟨_,_,⟨rfl,hr⟩,St.le_refl _,AV.leS_refl _ _ _⟩
 ·simp only[errAV,if_neg he];conv=>whnf
  exact⟨_,_,⟨rfl,hr⟩,St.le_refl _,AV.leS_refl _ _ _⟩
theorem solx_ok(hG:GS G){S₀ S:St}{rb:Nat}{ws:List ByteArray}{v:StepV}(h:Rdr S₀ S rb ws v)(hw:OkW ws)(hv:OkV v) :
 Triple P (C G) 119 [.ref rb 0] S fun o S'=>o=.ret (errAV (solG 11 ws v).1)∧Rdr S₀ S' rb (solG 11 ws v).2.1 (solG 11 ws v).2.2:=by
 obtain⟨t,hat⟩:=h;have hcs:=hat.at_;have hat2:=hat.set (v':={ v with kind:=11 }) (ws':=ws) rfl rfl rfl rfl;have hl:=lits_ok (G:=G) hG ⟨t,hat2⟩ hw.1 (by have:=hw.2;have:=hv.2.2.1;show ws.length+v.lits.length≤_;omega)
 unfold solG;refine triple_of_awp (hT G) hm Tryz.func119 rfl (by decide +kernel) rfl (by decide +kernel) (by show 1≤_;decide +kernel) rfl ?_
 conv=>whnf
 refine⟨_,_,hcs,?_⟩;conv=>whnf
 refine hl.mono ?_;rintro o S' ⟨rfl,hr⟩
 by_cases he:(litsG ws v.lits).2.1=0
 ·simp only[errAV,if_pos he];conv=>whnf
  exact⟨_,_,⟨rfl,hr⟩,St.le_refl _,AV.leS_refl _ _ _⟩
 ·simp only[errAV,if_neg he];conv=>whnf
  exact⟨_,_,⟨rfl,hr⟩,St.le_refl _,AV.leS_refl _ _ _⟩
def withIds(r:List ByteArray×Int×List ByteArray)(v:StepV):RetG:=(r.2.1,r.2.2,{ v with ids:=r.1 })
def rupG(ws:List ByteArray)(v:StepV):RetG:=
 if (rowG ws { v with kind:=4 }).1=0 then withIds (idsG (rowG ws { v with kind:=4 }).2.1 (rowG ws { v with kind:=4 }).2.2.ids) (rowG ws { v with kind:=4 }).2.2
 else rowG ws { v with kind:=4 }
theorem rup_ok(hG:GS G){S₀ S:St}{rb:Nat}{ws:List ByteArray}{v:StepV}(h:Rdr S₀ S rb ws v)(hw:OkW ws)(hv:OkV v) :
 Triple P (C G) 117 [.ref rb 0] S fun o S'=>o=.ret (errAV (rupG ws v).1)∧Rdr S₀ S' rb (rupG ws v).2.1 (rupG ws v).2.2:=by
 obtain⟨t,hat⟩:=h;have hcs:=hat.at_;have hat2:=hat.set (v':={ v with kind:=4 }) (ws':=ws) rfl rfl rfl rfl;have hrow:=row_ok (G:=G) hG ⟨t,hat2⟩ hw.1 (by have:=hw.2;have:=hv.2.1;show ws.length+v.pieces.length≤_;omega)
 have hw2:=hw.suffix (rowG_suffix ws { v with kind:=4 })
 have hid:=rowG_ids ws { v with kind:=4 }
 unfold rupG;generalize rowG ws { v with kind:=4 }=r at *;obtain⟨e,l2,v2⟩:=r;dsimp only at hrow hw2 hid ⊢;refine triple_of_awp (hT G) hm Tryz.func117 rfl (by decide +kernel) rfl (by decide +kernel) (by show 1≤_;decide +kernel) rfl ?_
 conv=>whnf
 refine⟨_,_,hcs,?_⟩;conv=>whnf
 refine hrow.mono ?_;rintro o S' ⟨rfl,hr⟩
 by_cases he:e=0
 ·simp only[if_pos he];rw[he,show errAV 0=.nili from rfl];conv=>whnf
  refine(ids_ok hr hw2.1 (by have:=hw2.2;have:=hv.2.2.2;rw[hid];show _+v.ids.length≤_;omega)).mono ?_
  rintro o S'' ⟨rfl,hr2⟩;unfold withIds
  by_cases he2:(idsG l2 v2.ids).2.1=0
  ·simp only[errAV,if_pos he2];conv=>whnf
   exact⟨_,_,⟨rfl,hr2⟩,St.le_refl _,AV.leS_refl _ _ _⟩
  ·simp only[errAV,if_neg he2];conv=>whnf
   exact⟨_,_,⟨rfl,hr2⟩,St.le_refl _,AV.leS_refl _ _ _⟩
 ·simp only[if_neg he,errAV];conv=>whnf
  exact⟨_,_,⟨rfl,hr⟩,St.le_refl _,AV.leS_refl _ _ _⟩
def stepOne(v:StepV)(t:Tips)(bb:Nat)(x:ByteArray):List AV:=[.int .i64 v.kind,.str v.num,.sl (.acc t.b3) 3 (rowsO v.ops),.sl (.acc t.b4) 2 (rowsP v.pieces),.str v.bound,.sl (.acc t.b6) 1 (rowsI v.lits),.sl (.own bb) 1 [[.str x]],.int .i64 v.n6,.str v.s7,.str v.s8]
theorem RdrAt.one{S₀ S:St}{rb:Nat}{ws:List ByteArray}{v:StepV}{t:Tips}(h:RdrAt S₀ S rb ws v t){bb:Nat}(hb:S bb=none)(x:ByteArray) :
 ∃ S3,St.leW S3 ((S.upd bb (.tip 9 1 1)).upd rb (rdr ws (stepOne v t bb x)))∧RdrAt S₀ S3 rb ws { v with ids:=[x] } { t with b7:=bb }:=by
 have h2:=h.more hb (.tip 9 1 1)
 have h0:S₀ bb=none:=by
  cases e:S₀ bb with
  | none=>rfl
  | some o=>rw[h.le _ _ e] at hb;cases hb
 have hne:bb≠rb:=by rintro rfl;rw[h.at_] at hb;cases hb
 refine⟨(S.upd bb (.tip 9 1 1)).upd rb (rdr ws (stepC { v with ids:=[x] } { t with b7:=bb })),?_,St.le_upd h2.le h2.new _,h2.new,St.upd_same _ _ _,h2.t3.upd h2.at_ _,h2.t4.upd h2.at_ _,h2.t6.upd h2.at_ _,fun _=>⟨by rw[St.upd_ne _ _ _ _ hne];exact St.upd_same _ _ _,h0⟩⟩
 have:=St.leW_upd (cs':=.sl .any 1 (rowsS ws)::stepC { v with ids:=[x] } { t with b7:=bb }) (St.upd_same (S.upd bb (.tip 9 1 1)) rb (rdr ws (stepOne v t bb x))) (by
  refine⟨⟨rfl,rfl⟩,rfl,rfl,rfl,rfl,rfl,rfl,?_,rfl,rfl,rfl,trivial⟩;exact⟨by simp,rfl,rfl,rfl⟩)
 rwa [St.upd_upd] at this
def sameG(ws:List ByteArray)(v:StepV):RetG:=
 if (numG 1 ws).2.1=0 then rowG (numG 1 ws).2.2 { v with kind:=12,ids:=[(numG 1 ws).1] }
 else ((numG 1 ws).2.1,(numG 1 ws).2.2,{ v with kind:=12 })
theorem same_ok(hG:GS G){S₀ S:St}{rb:Nat}{ws:List ByteArray}{v:StepV}(h:Rdr S₀ S rb ws v)(hw:OkW ws)(hv:OkV v) :
 Triple P (C G) 120 [.ref rb 0] S fun o S'=>o=.ret (errAV (sameG ws v).1)∧Rdr S₀ S' rb (sameG ws v).2.1 (sameG ws v).2.2:=by
 obtain⟨t,hat⟩:=h;have hcs:=hat.at_;have hat2:=hat.set (v':={ v with kind:=12 }) (ws':=ws) rfl rfl rfl rfl;have hnum:=number_ok (G:=G) rb ws _ 1 (by decide) (by decide) _ hat2.at_ hw.1
 have hat3:=hat2.words (ws':=(numG 1 ws).2.2)
 have hw2:=hw.suffix (numG_suffix 1 ws)
 unfold sameG;generalize (numG 1 ws).2.2=l2 at *;generalize (numG 1 ws).1=n at *;generalize (numG 1 ws).2.1=e at *;have hcs3:=hat3.at_;refine triple_of_awp (hT G) hm Tryz.func120 rfl (by decide +kernel) rfl (by decide +kernel) (by show 1≤_;decide +kernel) rfl ?_
 by_cases he:e=0
 ·simp only[if_pos he];simp only[errAV,if_pos he] at hnum;conv=>whnf
  refine⟨_,_,hcs,?_⟩;conv=>whnf
  refine hnum.mono ?_;rintro o S' ⟨rfl,rfl⟩;conv=>whnf
  intro bb hbb;conv=>whnf
  refine⟨_,_,(hat3.more hbb _).at_,?_⟩;conv=>whnf
  obtain⟨S3,hle,hat4⟩:=hat3.one hbb n;refine(Triple.weakS (row_ok (G:=G) hG ⟨_,hat4⟩ hw2.1 (by have:=hw2.2;have:=hv.2.1;show l2.length+v.pieces.length≤_;omega)) hle).mono ?_
  rintro o S' ⟨rfl,hr⟩;generalize rowG l2 { v with kind:=12,ids:=[n] }=r at *
  by_cases he2:r.1=0
  ·simp only[errAV,if_pos he2];conv=>whnf
   exact⟨_,_,⟨rfl,hr⟩,St.le_refl _,AV.leS_refl _ _ _⟩
  ·simp only[errAV,if_neg he2];conv=>whnf
   exact⟨_,_,⟨rfl,hr⟩,St.le_refl _,AV.leS_refl _ _ _⟩
 ·simp only[if_neg he];simp only[errAV,if_neg he] at hnum ⊢;conv=>whnf
  refine⟨_,_,hcs,?_⟩;conv=>whnf
  refine hnum.mono ?_;rintro o S' ⟨rfl,rfl⟩;conv=>whnf
  exact⟨_,_,⟨rfl,t,hat3⟩,St.le_refl _,AV.leS_refl _ _ _⟩
def idWords:List ByteArray:=[⟨#[105,100]⟩]
def delG(ws:List ByteArray)(v:StepV):RetG:=
 if (exactG ws idWords).2=0 then
  if (numG 1 (exactG ws idWords).1).2.1=0 then withIds (idsG (numG 1 (exactG ws idWords).1).2.2 [(numG 1 (exactG ws idWords).1).1]) { v with kind:=6 }
  else ((numG 1 (exactG ws idWords).1).2.1,(numG 1 (exactG ws idWords).1).2.2,{ v with kind:=6 })
 else ((exactG ws idWords).2,(exactG ws idWords).1,{ v with kind:=6 })
theorem del_ok{S₀ S:St}{rb:Nat}{ws:List ByteArray}{v:StepV}(h:Rdr S₀ S rb ws v)(hw:OkW ws)(hv:OkV v) :
 Triple P (C G) 121 [.ref rb 0] S fun o S'=>o=.ret (errAV (delG ws v).1)∧Rdr S₀ S' rb (delG ws v).2.1 (delG ws v).2.2:=by
 obtain⟨t,hat⟩:=h;have hcs:=hat.at_;have hat2:=hat.set (v':={ v with kind:=6 }) (ws':=ws) rfl rfl rfl rfl;have hw1:=hw.suffix (exactG_suffix ws idWords);unfold delG;refine triple_of_awp (hT G) hm Tryz.func121 rfl (by decide +kernel) rfl (by decide +kernel) (by show 1≤_;decide +kernel) rfl ?_
 conv=>whnf
 refine⟨_,_,hcs,?_⟩;conv=>whnf
 intro bb hbb;have hat3:=hat2.more hbb (.tip 9 ((C G).T 9).size 1);conv=>whnf
 refine Triple.use (exactly_ok rb ws _ idWords (by decide) _ hat3.at_) (by exact⟨rfl,⟨rfl,rfl⟩,trivial⟩) ?_
 rintro o S' ⟨rfl,rfl⟩;have hat4:=hat3.words (ws':=(exactG ws idWords).1);generalize (exactG ws idWords).1=l1 at *;generalize (exactG ws idWords).2=e1 at *;have hnum:=number_ok (G:=G) rb l1 _ 1 (by decide) (by decide) _ hat4.at_ hw1.1
 have hat5:=hat4.words (ws':=(numG 1 l1).2.2)
 have hw2:=hw1.suffix (numG_suffix 1 l1)
 by_cases he1:e1=0
 ·simp only[errAV,if_pos he1];generalize (numG 1 l1).2.2=l2 at *;generalize (numG 1 l1).1=n at *;generalize (numG 1 l1).2.1=e at *
  by_cases he:e=0
  ·simp only[if_pos he];simp only[errAV,if_pos he] at hnum;conv=>whnf
   refine hnum.mono ?_;rintro o S' ⟨rfl,rfl⟩;conv=>whnf
   intro b2 hb2;conv=>whnf
   refine⟨_,_,(hat5.more hb2 _).at_,?_⟩;conv=>whnf
   obtain⟨S3,hle,hat6⟩:=hat5.one hb2 n;refine(Triple.weakS (ids_ok (G:=G) ⟨_,hat6⟩ hw2.1 (by have:=hw2.2;show l2.length+1≤_;omega)) hle).mono ?_
   rintro o S' ⟨rfl,hr⟩;unfold withIds;dsimp only at hr ⊢
   by_cases he2:(idsG l2 [n]).2.1=0
   ·simp only[errAV,if_pos he2];conv=>whnf
    exact⟨_,_,⟨rfl,hr⟩,St.le_refl _,AV.leS_refl _ _ _⟩
   ·simp only[errAV,if_neg he2];conv=>whnf
    exact⟨_,_,⟨rfl,hr⟩,St.le_refl _,AV.leS_refl _ _ _⟩
  ·simp only[if_neg he];simp only[errAV,if_neg he] at hnum ⊢;conv=>whnf
   refine hnum.mono ?_;rintro o S' ⟨rfl,rfl⟩;conv=>whnf
   exact⟨_,_,⟨rfl,t,hat5⟩,St.le_refl _,AV.leS_refl _ _ _⟩
 ·simp only[if_neg he1,errAV];conv=>whnf
  exact⟨_,_,⟨rfl,t,hat4⟩,St.le_refl _,AV.leS_refl _ _ _⟩
def colonS:ByteArray:=⟨#[58]⟩
def idG(ws:List ByteArray)(v:StepV):RetG:=
 if ws.head? = some colonS then
  if (numG 1 ws.tail).2.1=0 then (0,(numG 1 ws.tail).2.2,{ v with ids:=[(numG 1 ws.tail).1] })
  else ((numG 1 ws.tail).2.1,(numG 1 ws.tail).2.2,v)
 else (0,ws,v)
theorem idG_suffix(ws:List ByteArray)(v:StepV):(idG ws v).2.1 <:+ ws:=by
 unfold idG;have h2:=(numG_suffix 1 ws.tail).trans (List.tail_suffix ws)
 split
 ·split<;>exact h2
 ·exact List.suffix_refl _
theorem words_drop(w:ByteArray)(l:List ByteArray):List.drop (Int.toNat 1) (List.take ((((rowsS (w::l)).length:Nat):Int).toNat) (rowsS (w::l)))=rowsS l:=by
 simp[rowsS]
 exact List.take_of_length_le (by simp)
theorem id_ok{S₀ S:St}{rb:Nat}{ws:List ByteArray}{v:StepV}(h:Rdr S₀ S rb ws v)(hw:OkW ws) :
 Triple P (C G) 150 [.ref rb 0] S fun o S'=>o=.ret (errAV (idG ws v).1)∧Rdr S₀ S' rb (idG ws v).2.1 (idG ws v).2.2:=by
 obtain⟨t,hat⟩:=h;have hcs:=hat.at_
 suffices hx:Triple P (C G) 150 [.ref rb 0] S fun o S'=>o=.ret (errAV (idG ws v).1)∧∃ S3,St.leW S3 S'∧Rdr S₀ S3 rb (idG ws v).2.1 (idG ws v).2.2 by
  refine Triple.lessW hx ?_;rintro o S' ⟨rfl,S3,h1,h2⟩;exact⟨S3,⟨rfl,h2⟩,h1⟩
 have hnx:=rnext_ok (G:=G) rb ws _ colonS S hcs
 unfold idG
 by_cases hc:ws.head? = some colonS
 ·simp only[if_pos hc];rw[decide_eq_true hc] at hnx;obtain⟨l,rfl⟩:∃ l,ws=colonS::l:=by
   cases ws with
   | nil=>cases hc
   | cons w l=>simp only[List.head?_cons,Option.some.injEq] at hc;exact⟨l,by rw[hc]⟩
  have hw1:=hw.suffix (List.suffix_cons colonS l)
  have hat2:=hat.words (ws':=l)
  have hnum:=number_ok (G:=G) rb l _ 1 (by decide) (by decide) _ hat2.at_ hw1.1
  have hat3:=hat2.words (ws':=(numG 1 l).2.2)
  rw[show(colonS::l).tail=l from rfl];generalize (numG 1 l).2.2=l2 at *;generalize (numG 1 l).1=n at *;generalize (numG 1 l).2.1=e at *;refine triple_of_awp (hT G) hm Tryz.func150 rfl (by decide +kernel) rfl (by decide +kernel) (by show 1≤_;decide +kernel) rfl ?_
  refine awp_seq2 fun K hK hQ=>?_
  conv=>whnf
  refine hK _ _ ?_;clear hK hQ K;refine awp_seq2 fun K hK hQ=>?_
  conv=>whnf
  refine hnx.mono ?_;rintro o T ⟨rfl,rfl⟩;conv=>whnf
  refine hK _ _ ?_;clear hK hQ K;refine awp_seq2 fun K hK hQ=>?_
  conv=>whnf
  refine⟨_,_,hcs,?_⟩;conv=>whnf
  refine⟨⟨by decide,by simp only[rowsS_len,List.length_cons];omega,by omega⟩,?_⟩
  conv=>whnf
  refine⟨_,_,hcs,?_⟩;rw[words_drop];conv=>whnf
  refine hK _ _ ?_;clear hK hQ K
  by_cases he:e=0
  ·simp only[if_pos he];simp only[errAV,if_pos he] at hnum;conv=>whnf
   refine hnum.mono ?_;rintro o S' ⟨rfl,rfl⟩;conv=>whnf
   intro b2 hb2;conv=>whnf
   refine⟨_,_,(hat3.more hb2 _).at_,?_⟩;conv=>whnf
   obtain⟨S3,hle,hat4⟩:=hat3.one hb2 n;exact⟨_,_,⟨rfl,S3,hle,_,hat4⟩,St.le_refl _,AV.leS_refl _ _ _⟩
  ·simp only[if_neg he];simp only[errAV,if_neg he] at hnum ⊢;conv=>whnf
   refine hnum.mono ?_;rintro o S' ⟨rfl,rfl⟩;conv=>whnf
   exact⟨_,_,⟨rfl,_,St.leW_refl _,t,hat3⟩,St.le_refl _,AV.leS_refl _ _ _⟩
 ·simp only[if_neg hc];rw[decide_eq_false hc] at hnx;refine triple_of_awp (hT G) hm Tryz.func150 rfl (by decide +kernel) rfl (by decide +kernel) (by show 1≤_;decide +kernel) rfl ?_
  conv=>whnf
  refine hnx.mono ?_;rintro o T ⟨rfl,rfl⟩;conv=>whnf
  exact⟨_,_,⟨rfl,_,St.leW_refl _,t,hat⟩,St.le_refl _,AV.leS_refl _ _ _⟩
def allG(l:List ByteArray)(v:StepV):RetG:=
 if (numG 0 l).2.1=0 then
  if (numG 0 l).2.2=[] then (82,(numG 0 l).2.2,{ v with n6:=6,s8:=(numG 0 l).1 }) else idG (numG 0 l).2.2 { v with n6:=6,s8:=(numG 0 l).1 }
 else ((numG 0 l).2.1,(numG 0 l).2.2,{ v with n6:=6,s8:=(numG 0 l).1 })
def upG(r:RetG):RetG:=
 if r.1=0 then ((numG (-1) r.2.1).2.1,(numG (-1) r.2.1).2.2,{ r.2.2 with s8:=(numG (-1) r.2.1).1 }) else r
def boundsG(l:List ByteArray)(v:StepV):RetG:=
 if (numG (-1) l).2.1=0 then upG (idG (numG (-1) l).2.2 { v with n6:=5,s7:=(numG (-1) l).1 })
 else ((numG (-1) l).2.1,(numG (-1) l).2.2,{ v with n6:=5,s7:=(numG (-1) l).1 })
def noneS:ByteArray:=⟨#[78,79,78,69]⟩
def satS:ByteArray:=⟨#[83,65,84]⟩
def unsatS:ByteArray:=⟨#[85,78,83,65,84]⟩
def allS:ByteArray:=⟨#[65,76,76]⟩
def boundsS:ByteArray:=⟨#[66,79,85,78,68,83]⟩
def conclG(ws:List ByteArray)(v:StepV):RetG:=
 match ws with
 | []=>(82,[],{ v with kind:=9 })
 | w::l=>
   if w=noneS then (0,l,{ v with kind:=9,n6:=1 })
   else if w=satS then (0,l,{ v with kind:=9,n6:=3 })
   else if w=unsatS then idG l { v with kind:=9,n6:=2 }
   else if w=allS then allG l { v with kind:=9 }
   else if w=boundsS then boundsG l { v with kind:=9 }
   else (80,l,{ v with kind:=9 })
theorem conclusion_ok{S₀ S:St}{rb:Nat}{ws:List ByteArray}{v:StepV}(h:Rdr S₀ S rb ws v)(hw:OkW ws) :
 Triple P (C G) 124 [.ref rb 0] S fun o S'=>o=.ret (errAV (conclG ws v).1)∧Rdr S₀ S' rb (conclG ws v).2.1 (conclG ws v).2.2:=by
 obtain⟨t,hat⟩:=h;have hcs:=hat.at_;have hat2:=hat.set (v':={ v with kind:=9 }) (ws':=ws) rfl rfl rfl rfl;have htk:=rtake_ok (G:=G) rb ws _ _ hat2.at_;refine triple_of_awp (hT G) hm Tryz.func124 rfl (by decide +kernel) rfl (by decide +kernel) (by show 1≤_;decide +kernel) rfl ?_
 refine awp_seq2 fun K hK hQ=>?_
 conv=>whnf
 refine hK _ _ ?_;clear hK hQ K;refine awp_seq2 fun K hK hQ=>?_
 conv=>whnf
 refine⟨_,_,hcs,?_⟩;conv=>whnf
 refine hK _ _ ?_;clear hK hQ K;refine awp_seq2 fun K hK hQ=>?_
 cases ws with
 | nil=>
   conv=>whnf
   refine htk.mono ?_;rintro o S' ⟨rfl,rfl⟩;conv=>whnf
   refine hK _ _ ?_;clear hK hQ K;conv=>whnf
   exact⟨_,_,⟨rfl,t,hat2⟩,St.le_refl _,AV.leS_refl _ _ _⟩
 | cons w l=>
   conv=>whnf
   refine htk.mono ?_;rintro o S' ⟨rfl,rfl⟩;have hat3:=hat2.words (ws':=l);have hcs3:=hat3.at_;have hw1:=hw.suffix (List.suffix_cons w l);clear htk;generalize (S.upd rb _).upd rb _=S3 at hat3 hcs3 ⊢;conv=>whnf
   refine hK _ _ ?_;clear hK hQ K;unfold conclG;dsimp only;refine awp_seq2 fun K hK hQ=>?_
   conv=>whnf
   refine hK _ _ ?_;clear hK hQ K;refine awp_seq2 fun K hK hQ=>?_
   conv=>whnf
   refine split_of (fun h=>?_) (fun h=>?_)
   ·have h1:w=noneS:=of_decide_eq_true h
    simp only[if_pos h1] at hK hQ;conv=>whnf
    refine⟨_,_,hcs3,?_⟩;conv=>whnf
    refine hK _ _ ?_;clear hK hQ K;conv=>whnf
    exact⟨_,_,⟨rfl,t,hat3.set (v':={ v with kind:=9,n6:=1 }) (ws':=l) rfl rfl rfl rfl⟩,St.le_refl _,AV.leS_refl _ _ _⟩
   have h1:¬ w=noneS:=of_decide_eq_false h
   simp only[if_neg h1] at hK hQ;conv=>whnf
   refine split_of (fun h=>?_) (fun h=>?_)
   ·have h1:w=satS:=of_decide_eq_true h
    simp only[if_pos h1] at hK hQ;conv=>whnf
    refine⟨_,_,hcs3,?_⟩;conv=>whnf
    refine hK _ _ ?_;clear hK hQ K;conv=>whnf
    exact⟨_,_,⟨rfl,t,hat3.set (v':={ v with kind:=9,n6:=3 }) (ws':=l) rfl rfl rfl rfl⟩,St.le_refl _,AV.leS_refl _ _ _⟩
   have h2:¬ w=satS:=of_decide_eq_false h
   simp only[if_neg h2] at hK hQ;conv=>whnf
   refine split_of (fun h=>?_) (fun h=>?_)
   ·have h1:w=unsatS:=of_decide_eq_true h
    simp only[if_pos h1] at hQ;clear hK;conv=>whnf
    refine⟨_,_,hcs3,?_⟩;conv=>whnf
    have hat4:=hat3.set (v':={ v with kind:=9,n6:=2 }) (ws':=l) rfl rfl rfl rfl
    refine(id_ok ⟨t,hat4⟩ hw1).mono ?_;rintro o S' ⟨rfl,hr⟩;generalize idG l { v with kind:=9,n6:=2 }=r at *
    by_cases he2:r.1=0
    ·simp only[errAV,if_pos he2] at hQ ⊢;conv=>whnf
     refine hQ _ _ _ (by simp) ?_
     conv=>whnf
     exact⟨_,_,⟨rfl,hr⟩,St.le_refl _,AV.leS_refl _ _ _⟩
    ·simp only[errAV,if_neg he2] at hQ ⊢;conv=>whnf
     refine hQ _ _ _ (by simp) ?_
     conv=>whnf
     exact⟨_,_,⟨rfl,hr⟩,St.le_refl _,AV.leS_refl _ _ _⟩
   have h3:¬ w=unsatS:=of_decide_eq_false h
   simp only[if_neg h3] at hK hQ;conv=>whnf
   refine split_of (fun h=>?_) (fun h=>?_)
   ·have h1:w=allS:=of_decide_eq_true h
    simp only[if_pos h1] at hQ;clear hK;have hat4:=hat3.set (v':={ v with kind:=9,n6:=6 }) (ws':=l) rfl rfl rfl rfl;have hnum:=number_ok (G:=G) rb l _ 0 (by decide) (by decide) _ hat4.at_ hw1.1
    have hat5:=hat4.words (ws':=(numG 0 l).2.2)
    have hw2:=hw1.suffix (numG_suffix 0 l)
    unfold allG at hQ;generalize (numG 0 l).2.2=l2 at *;generalize (numG 0 l).1=n at *;generalize (numG 0 l).2.1=e at *;have hat6:=hat5.set (v':={ v with kind:=9,n6:=6,s8:=n }) (ws':=l2) rfl rfl rfl rfl;have hcs5:=hat5.at_;have hcs6:=hat6.at_;conv=>whnf
    refine⟨_,_,hcs3,?_⟩;conv=>whnf
    refine hnum.mono ?_;rintro o S' ⟨rfl,rfl⟩
    by_cases he:e=0
    ·simp only[if_pos he] at hQ;simp only[errAV,if_pos he];conv=>whnf
     refine⟨_,_,hcs5,?_⟩;conv=>whnf
     refine⟨_,_,hcs6,?_⟩;conv=>whnf
     intro _
     cases l2 with
     | nil=>
       simp only[if_true] at hQ;conv=>whnf
       refine(fail_ok 82 _).mono ?_;rintro o S' ⟨rfl,rfl⟩;conv=>whnf
       refine hQ _ _ _ (by simp) ?_
       conv=>whnf
       exact⟨_,_,⟨rfl,t,hat6⟩,St.le_refl _,AV.leS_refl _ _ _⟩
     | cons x l2=>
       simp only[reduceCtorEq,if_false] at hQ;conv=>whnf
       refine(id_ok ⟨t,hat6⟩ hw2).mono ?_;rintro o S' ⟨rfl,hr⟩;generalize idG (x::l2) { v with kind:=9,n6:=6,s8:=n }=r at *
       by_cases he2:r.1=0
       ·simp only[errAV,if_pos he2] at hQ ⊢;conv=>whnf
        refine hQ _ _ _ (by simp) ?_
        conv=>whnf
        exact⟨_,_,⟨rfl,hr⟩,St.le_refl _,AV.leS_refl _ _ _⟩
       ·simp only[errAV,if_neg he2] at hQ ⊢;conv=>whnf
        refine hQ _ _ _ (by simp) ?_
        conv=>whnf
        exact⟨_,_,⟨rfl,hr⟩,St.le_refl _,AV.leS_refl _ _ _⟩
    ·simp only[if_neg he] at hQ;simp only[errAV,if_neg he] at hQ ⊢;conv=>whnf
     refine⟨_,_,hcs5,?_⟩;conv=>whnf
     refine hQ _ _ _ (by simp) ?_
     conv=>whnf
     exact⟨_,_,⟨rfl,t,hat6⟩,St.le_refl _,AV.leS_refl _ _ _⟩
   have h4:¬ w=allS:=of_decide_eq_false h
   simp only[if_neg h4] at hK hQ;conv=>whnf
   refine split_of (fun h=>?_) (fun h=>?_)
   ·have h1:w=boundsS:=of_decide_eq_true h
    simp only[if_pos h1] at hQ;clear hK;have hat4:=hat3.set (v':={ v with kind:=9,n6:=5 }) (ws':=l) rfl rfl rfl rfl;have hnum:=number_ok (G:=G) rb l _ (-1) (by decide) (by decide) _ hat4.at_ hw1.1
    have hat5:=hat4.words (ws':=(numG (-1) l).2.2)
    have hw2:=hw1.suffix (numG_suffix (-1) l)
    unfold boundsG at hQ;generalize (numG (-1) l).2.2=l2 at *;generalize (numG (-1) l).1=n at *;generalize (numG (-1) l).2.1=e at *;have hat6:=hat5.set (v':={ v with kind:=9,n6:=5,s7:=n }) (ws':=l2) rfl rfl rfl rfl;have hcs5:=hat5.at_;conv=>whnf
    refine⟨_,_,hcs3,?_⟩;conv=>whnf
    refine hnum.mono ?_;rintro o S' ⟨rfl,rfl⟩
    by_cases he:e=0
    ·simp only[if_pos he] at hQ;simp only[errAV,if_pos he];conv=>whnf
     refine⟨_,_,hcs5,?_⟩;conv=>whnf
     have hw3:=hw2.suffix (idG_suffix l2 { v with kind:=9,n6:=5,s7:=n })
     refine(id_ok ⟨t,hat6⟩ hw2).mono ?_;rintro o S' ⟨rfl,hr⟩;generalize idG l2 { v with kind:=9,n6:=5,s7:=n }=r at *;obtain⟨e2,l3,v3⟩:=r;dsimp only at hr hw3 ⊢;unfold upG at hQ;dsimp only at hQ;obtain⟨t2,hat7⟩:=hr;have hnum2:=number_ok (G:=G) rb l3 _ (-1) (by decide) (by decide) _ hat7.at_ hw3.1
     have hat8:=hat7.words (ws':=(numG (-1) l3).2.2)
     generalize (numG (-1) l3).2.2=l4 at *;generalize (numG (-1) l3).1=m at *;generalize (numG (-1) l3).2.1=e3 at *;have hat9:=hat8.set (v':={ v3 with s8:=m }) (ws':=l4) rfl rfl rfl rfl;have hcs8:=hat8.at_
     by_cases he2:e2=0
     ·simp only[if_pos he2] at hQ;simp only[errAV,if_pos he2]
      by_cases he3:e3=0
      ·simp only[errAV,if_pos he3] at hnum2 hQ;conv=>whnf
       refine hnum2.mono ?_;rintro o S' ⟨rfl,rfl⟩;conv=>whnf
       refine⟨_,_,hcs8,?_⟩;conv=>whnf
       refine hQ _ _ _ (by simp) ?_
       conv=>whnf
       exact⟨_,_,⟨rfl,t2,hat9⟩,St.le_refl _,AV.leS_refl _ _ _⟩
      ·simp only[errAV,if_neg he3] at hnum2 hQ;conv=>whnf
       refine hnum2.mono ?_;rintro o S' ⟨rfl,rfl⟩;conv=>whnf
       refine⟨_,_,hcs8,?_⟩;conv=>whnf
       refine hQ _ _ _ (by simp) ?_
       conv=>whnf
       exact⟨_,_,⟨rfl,t2,hat9⟩,St.le_refl _,AV.leS_refl _ _ _⟩
     ·simp only[if_neg he2] at hQ;simp only[errAV,if_neg he2] at hQ ⊢;conv=>whnf
      refine hQ _ _ _ (by simp) ?_
      conv=>whnf
      exact⟨_,_,⟨rfl,t2,hat7⟩,St.le_refl _,AV.leS_refl _ _ _⟩
    ·simp only[if_neg he] at hQ;simp only[errAV,if_neg he] at hQ ⊢;conv=>whnf
     refine⟨_,_,hcs5,?_⟩;conv=>whnf
     refine hQ _ _ _ (by simp) ?_
     conv=>whnf
     exact⟨_,_,⟨rfl,t,hat6⟩,St.le_refl _,AV.leS_refl _ _ _⟩
   have h5:¬ w=boundsS:=of_decide_eq_false h
   simp only[if_neg h5] at hK hQ;conv=>whnf
   refine(fail_ok 80 _).mono ?_;rintro o S' ⟨rfl,rfl⟩;conv=>whnf
   refine hQ _ _ _ (by simp) ?_
   conv=>whnf
   exact⟨_,_,⟨rfl,t,hat3⟩,St.le_refl _,AV.leS_refl _ _ _⟩
def encM(tb:List (ByteArray×Int)):List (AV×AV):=tb.map fun e=>(.str e.1,.int .i64 e.2)
def behindG(tb:List (ByteArray×Int))(ws:List ByteArray)(k:Int):Int×List ByteArray:=
 match ws with
 | []=>(k,[])
 | w::l=>match tb.find? (fun e=>decide (e.1=w)) with
   | some e=>(e.2,l)
   | none=>(k,w::l)
theorem behindG_hit{tb:List (ByteArray×Int)}(hnd:(tb.map (·.1)).Nodup){k:ByteArray}{z:Int}(h:(k,z)∈tb)(l:List ByteArray)(kd:Int):behindG tb (k::l) kd=(z,l):=by
 have:tb.find? (fun e=>decide (e.1=k))=some (k,z):=by
  induction tb with
  | nil=>cases h
  | cons e tb ih=>
    rw[List.find?_cons]
    rcases List.mem_cons.1 h with rfl | h
    ·simp
    ·have hne:¬ e.1=k:=by
      intro he;rw[List.map_cons,List.nodup_cons] at hnd;exact hnd.1 (List.mem_map.2 ⟨_,h,he.symm⟩)
     simp only[hne,decide_false];exact ih (by rw[List.map_cons,List.nodup_cons] at hnd;exact hnd.2) h
 simp only[behindG,this]
theorem behindG_miss{tb:List (ByteArray×Int)}{ws:List ByteArray}(h:∀ e∈tb,ws.head?≠some e.1)(kd:Int):behindG tb ws kd=(kd,ws):=by
 cases ws with
 | nil=>rfl
 | cons w l=>
   have:tb.find? (fun e=>decide (e.1=w))=none:=by
    rw[List.find?_eq_none];intro e he;have:=h e he;simp only[List.head?_cons,ne_eq,Option.some.injEq] at this
    simp[Ne.symm this]
   simp only[behindG,this]
theorem RdrAt.del{S₀ S:St}{rb mr:Nat}{ws:List ByteArray}{v:StepV}{t:Tips}(h:RdrAt S₀ S rb ws v t)(h0:S₀ mr=none){es:List (AV×AV)}(hm:S mr=some (.mapo es)):RdrAt S₀ (S.del mr) rb ws v t:=by
 have hk:∀ x p,S x=some p→(∀ es',p≠.mapo es')→(S.del mr) x=some p:=fun x p hx hp=>by
  rw[St.del_ne _ _ _ (fun e=>by subst e;rw[hm] at hx;cases hx;exact hp _ rfl)];exact hx
 exact⟨St.le_del' h.le h0,h.new,hk _ _ h.at_ (by intro es' e;unfold rdr at e;cases e),fun hn=>⟨hk _ _ (h.t3 hn).1 (by intro _ e;cases e),(h.t3 hn).2⟩,fun hn=>⟨hk _ _ (h.t4 hn).1 (by intro _ e;cases e),(h.t4 hn).2⟩,fun hn=>⟨hk _ _ (h.t6 hn).1 (by intro _ e;cases e),(h.t6 hn).2⟩,fun hn=>⟨hk _ _ (h.t7 hn).1 (by intro _ e;cases e),(h.t7 hn).2⟩⟩
theorem St.le_non{S₀ S:St}(h:St.le S₀ S){b:Nat}(hb:S b=none):S₀ b=none:=by
 cases e:S₀ b with
 | none=>rfl
 | some o=>rw[h _ _ e] at hb;cases hb
theorem RdrAt.put{S₀ S:St}{rb x:Nat}{ws:List ByteArray}{v:StepV}{t:Tips}(h:RdrAt S₀ S rb ws v t){e:TypeId}{cs:List AV}(hx:S x=some (.obj e cs))(hx0:S₀ x=none)(hne:rb≠x)(o:Own):RdrAt S₀ (S.upd x o) rb ws v t:=by
 have hk:∀ y e k n,S y=some (.tip e k n)→(S.upd x o) y=some (.tip e k n):=fun y e k n hy=>by
  rw[St.upd_ne _ _ _ _ (fun e=>by subst e;rw[hx] at hy;cases hy)];exact hy
 exact⟨St.le_upd h.le hx0 _,h.new,by rw[St.upd_ne _ _ _ _ hne];exact h.at_,fun hn=>⟨hk _ _ _ _ (h.t3 hn).1,(h.t3 hn).2⟩,fun hn=>⟨hk _ _ _ _ (h.t4 hn).1,(h.t4 hn).2⟩,fun hn=>⟨hk _ _ _ _ (h.t6 hn).1,(h.t6 hn).2⟩,fun hn=>⟨hk _ _ _ _ (h.t7 hn).1,(h.t7 hn).2⟩⟩
theorem behind_ok{tb:List (ByteArray×Int)}(hnd:(tb.map (·.1)).Nodup){S₀ S:St}{rb mr:Nat}{ws:List ByteArray}{v:StepV}{t:Tips}(h:RdrAt S₀ S rb ws v t)(h0:S₀ mr=none)(hmr:S mr=some (.mapo (encM tb)))(kd:Int)(num:ByteArray)(lit:Int) :
 Triple P (C G) 172 [.ref rb 0,.ag [.int .i64 kd,.str num,.int .i64 lit],.mp mr] S fun o S'=>o=.ret (.ag [.int .i64 (behindG tb ws kd).1,.str num,.int .i64 lit])∧Rdr S₀ S' rb (behindG tb ws kd).2 v:=by
 refine triple_of_awp (hT G) hm Tryz.func172 rfl (by decide +kernel) rfl (by decide +kernel) (by show 3≤_;decide +kernel) rfl ?_
 refine awp_seq2 fun K hK hQ=>?_
 conv=>whnf
 intro b4 hb4;conv=>whnf
 intro b6 hb6;conv=>whnf
 refine hK _ _ ?_;clear hK hQ K;have hat1:=(h.more hb4 (.obj 201 [.int .i64 kd,.str num,.int .i64 lit])).more hb6 (.obj 201 [.int .i64 0,.str ByteArray.empty,.int .i64 0]);refine awp_seq2 fun K hK hQ=>?_
 conv=>whnf
 have hm1:((S.upd b4 (.obj 201 [.int .i64 kd,.str num,.int .i64 lit])).upd b6 (.obj 201 [.int .i64 0,.str ByteArray.empty,.int .i64 0])) mr=some (.mapo (encM tb)):=St.up hb6 (St.up hb4 hmr)
 refine⟨_,hm1,?_⟩;have hat2:=hat1.del h0 hm1;have k6:=St.upd_same (S.upd b4 (.obj 201 [.int .i64 kd,.str num,.int .i64 lit])) b6 (.obj 201 [.int .i64 0,.str ByteArray.empty,.int .i64 0]);have k4:((S.upd b4 (.obj 201 [.int .i64 kd,.str num,.int .i64 lit])).upd b6 (.obj 201 [.int .i64 0,.str ByteArray.empty,.int .i64 0])) b4=some (.obj 201 [.int .i64 kd,.str num,.int .i64 lit]):=St.up hb6 (St.upd_same _ _ _);have z4:=St.le_non h.le hb4;have z6:=St.le_non h.le (St.no hb6);have n64:b4≠b6:=(St.ne_upd hb6).symm;have nr4:rb≠b4:=St.ne_of hb4 h.at_;have nr6:rb≠b6:=St.ne_of hb6 (St.up hb4 h.at_);generalize (S.upd b4 (.obj 201 [.int .i64 kd,.str num,.int .i64 lit])).upd b6 (.obj 201 [.int .i64 0,.str ByteArray.empty,.int .i64 0])=S1 at *;have n4:b4≠mr:=fun e=>by subst e;rw[k4] at hm1;cases hm1
 have n6:b6≠mr:=fun e=>by subst e;rw[k6] at hm1;cases hm1
 have k4:(S1.del mr) b4=some (.obj 201 [.int .i64 kd,.str num,.int .i64 lit]):=by rw[St.del_ne _ _ _ n4];exact k4
 have k6:(S1.del mr) b6=some (.obj 201 [.int .i64 0,.str ByteArray.empty,.int .i64 0]):=by rw[St.del_ne _ _ _ n6];exact k6
 clear hm1 hat1;generalize S1.del mr=S2 at *;intro bi hbi;conv=>whnf
 refine⟨⟨List (ByteArray×Int),fun _=>[(0,.ref rb 0),(4,.ref b4 0),(6,.ref b6 0),(10,.ref bi 0)],
  fun left S'=>(∃ cur,S'=S2.upd bi (.miter cur (encM left)))∧(∀ e∈left,e∈tb)∧(∀ e∈tb,e∈left∨ws.head?≠some e.1),fun left=>left.length⟩,
  ⟨tb,⟨rfl,rfl,rfl,rfl,trivial⟩,⟨_,St.leW_refl _,⟨none,rfl⟩,fun e he=>he,fun e he=>.inl he⟩⟩,?_⟩
 rintro left S3 ⟨⟨cur,rfl⟩,h1,h2⟩;conv=>whnf
 refine⟨cur,encM left,St.upd_same _ _ _,fun hnil=>?_,fun pre kv post hsp=>?_⟩
 ·have hnil:left=[]:=by simpa [encM] using hnil
  subst hnil;rw[behindG_miss (fun e he=>(h2 e he).resolve_left (by simp))] at hK
  have hat3:=hat2.more hbi (.miter cur (encM []))
  have q4:(S2.upd bi (.miter cur (encM []))) b4=some (.obj 201 [.int .i64 kd,.str num,.int .i64 lit]):=St.up hbi k4
  have q6:(S2.upd bi (.miter cur (encM []))) b6=some (.obj 201 [.int .i64 0,.str ByteArray.empty,.int .i64 0]):=St.up hbi k6
  conv=>whnf
  refine hK _ _ ?_;clear hK hQ K;conv=>whnf
  refine⟨_,_,q4,?_⟩;conv=>whnf
  refine⟨_,_,q6,?_⟩;conv=>whnf
  refine⟨_,_,St.upd_same _ _ _,?_⟩;conv=>whnf
  exact⟨_,_,⟨rfl,t,hat3.put q6 z6 nr6 _⟩,St.le_refl _,AV.leS_refl _ _ _⟩
 ·obtain⟨pre',e,post',hl,rfl,rfl,rfl⟩:∃ pre' e post',left=pre'++e::post'∧pre=encM pre'∧kv=(.str e.1,.int .i64 e.2)∧post=encM post':=by
   have h:=List.map_eq_append_iff.1 hsp
   obtain⟨l1,l2,rfl,rfl,h3⟩:=h;obtain⟨e,l3,rfl,rfl,rfl⟩:=List.map_eq_cons_iff.1 h3;exact⟨l1,e,l3,rfl,rfl,rfl,rfl⟩
  obtain⟨ky,z⟩:=e;rw[St.upd_upd,show encM pre'++encM post'=encM (pre'++post') by simp[encM]]
  have hat3:=hat2.more hbi (.miter (some (.str ky,.int .i64 z)) (encM (pre'++post')))
  have q4:(S2.upd bi (.miter (some (.str ky,.int .i64 z)) (encM (pre'++post')))) b4=some (.obj 201 [.int .i64 kd,.str num,.int .i64 lit]):=St.up hbi k4
  have q6:(S2.upd bi (.miter (some (.str ky,.int .i64 z)) (encM (pre'++post')))) b6=some (.obj 201 [.int .i64 0,.str ByteArray.empty,.int .i64 0]):=St.up hbi k6
  have qi:(S2.upd bi (.miter (some (.str ky,.int .i64 z)) (encM (pre'++post')))) bi=some (.miter (some (.str ky,.int .i64 z)) (encM (pre'++post'))):=St.upd_same _ _ _
  have hcs:=hat3.at_
  have hnx:=rnext_ok (G:=G) rb ws _ ky _ hcs
  by_cases hk:ws.head? = some ky
  ·rw[decide_eq_true hk] at hnx;obtain⟨l,rfl⟩:∃ l,ws=ky::l:=by
    cases ws with
    | nil=>cases hk
    | cons w l=>simp only[List.head?_cons,Option.some.injEq] at hk;exact⟨l,by rw[hk]⟩
   rw[behindG_hit hnd (h1 (ky,z) (by rw[hl];simp)) l kd] at hK
   have hat4:=hat3.words (ws':=l)
   have p4:=hat4.at_
   conv=>whnf
   refine⟨_,_,qi,?_⟩;conv=>whnf
   refine hnx.mono ?_;rintro o S' ⟨rfl,rfl⟩;conv=>whnf
   refine⟨_,_,hcs,?_⟩;conv=>whnf
   refine⟨⟨by decide,by simp only[rowsS_len,List.length_cons];omega,by omega⟩,?_⟩
   conv=>whnf
   refine⟨_,_,hcs,?_⟩;rw[words_drop];conv=>whnf
   refine⟨_,_,St.ov nr4.symm q4,?_⟩;conv=>whnf
   refine hK _ _ ?_;clear hK hQ K;conv=>whnf
   refine⟨_,_,St.upd_same _ _ _,?_⟩;conv=>whnf
   refine⟨_,_,St.ov n64.symm (St.ov nr6.symm q6),?_⟩;conv=>whnf
   refine⟨_,_,St.upd_same _ _ _,?_⟩;conv=>whnf
   refine⟨_,_,⟨rfl,t,(hat4.put (St.ov nr4.symm q4) z4 nr4 _).put (St.ov n64.symm (St.ov nr6.symm q6)) z6 nr6 _⟩,St.le_refl _,AV.leS_refl _ _ _⟩
  ·rw[decide_eq_false hk] at hnx;clear hK hQ;conv=>whnf
   refine⟨_,_,qi,?_⟩;conv=>whnf
   refine hnx.mono ?_;rintro o S' ⟨rfl,rfl⟩;conv=>whnf
   refine⟨pre'++post',⟨rfl,rfl,rfl,rfl,trivial⟩,⟨_,St.leW_refl _,⟨_,rfl⟩,fun x hx=>h1 x (by rw[hl];simp at hx ⊢;rcases hx with h | h<;>simp[h]),fun x hx=>?_⟩,by show(pre'++post').length<left.length;rw[hl];simp⟩
   rcases h2 x hx with h | h
   ·rw[hl] at h;simp only[List.mem_append,List.mem_cons] at h
    rcases h with h | rfl | h
    ·exact .inl (by simp[h])
    ·exact .inr hk
    ·exact .inl (by simp[h])
   ·exact .inr h
def plusS:ByteArray:=⟨#[43]⟩
def sS:ByteArray:=⟨#[115]⟩
def tbN:List (ByteArray×Int):=[(⟨#[42]⟩,4),(⟨#[100]⟩,5)]
def tbL:List (ByteArray×Int):=[(⟨#[119]⟩,7)]
def opG(ws:List ByteArray):(Int×ByteArray×Int)×Int×List ByteArray:=
 match ws with
 | []=>((0,ByteArray.empty,0),82,[])
 | w::l=>
   if w=plusS then ((3,ByteArray.empty,0),0,l)
   else if w=sS then ((6,ByteArray.empty,0),0,l)
   else if isNumV w.data.toList 1=true then (((behindG tbN l 1).1,w,0),0,(behindG tbN l 1).2)
   else if isNumV w.data.toList (-1)=true then ((0,ByteArray.empty,0),81,l)
   else if 0<litV w.data.toList then (((behindG tbL l 2).1,ByteArray.empty,litV w.data.toList),0,(behindG tbL l 2).2)
   else if litV w.data.toList<0 then ((2,ByteArray.empty,litV w.data.toList),0,l)
   else ((0,ByteArray.empty,0),80,l)
theorem behindG_suffix(tb:List (ByteArray×Int))(ws:List ByteArray)(k:Int):(behindG tb ws k).2 <:+ ws:=by
 cases ws with
 | nil=>exact List.suffix_refl _
 | cons w l=>
   unfold behindG;dsimp only
   split
   ·exact List.suffix_cons _ _
   ·exact List.suffix_refl _
theorem opG_suffix(ws:List ByteArray):(opG ws).2.2 <:+ ws:=by
 cases ws with
 | nil=>exact List.suffix_refl _
 | cons w l=>
   unfold opG;dsimp only
   repeat' split
   all_goals first | exact List.suffix_cons _ _ | exact(behindG_suffix _ _ _).trans (List.suffix_cons _ _)
def opAV(o:Int×ByteArray×Int):AV:=.ag [.int .i64 o.1,.str o.2.1,.int .i64 o.2.2]
theorem RdrAt.with{S₀ S:St}{rb x:Nat}{ws:List ByteArray}{v:StepV}{t:Tips}(h:RdrAt S₀ S rb ws v t){e:TypeId}{cs:List AV}(hx:S x=some (.obj e cs))(hne:rb≠x):RdrAt (S₀.upd x (.obj e cs)) S rb ws v t:=by
 have hk:∀ b e' k n,S b=some (.tip e' k n)∧S₀ b=none→S b=some (.tip e' k n)∧(S₀.upd x (.obj e cs)) b=none:=fun b e' k n hb=>by
  refine⟨hb.1,?_⟩;rw[St.upd_ne _ _ _ _ (fun eb=>by subst eb;rw[hx] at hb;cases hb.1)];exact hb.2
 refine⟨fun y p hy=>?_,by rw[St.upd_ne _ _ _ _ hne];exact h.new,h.at_,fun hn=>hk _ _ _ _ (h.t3 hn),fun hn=>hk _ _ _ _ (h.t4 hn),fun hn=>hk _ _ _ _ (h.t6 hn),fun hn=>hk _ _ _ _ (h.t7 hn)⟩
 by_cases hyx:y=x
 ·subst hyx;rw[St.upd_same] at hy;rw[hx];exact hy
 ·rw[St.upd_ne _ _ _ _ hyx] at hy;exact h.le y p hy
theorem RdrAt.without{S₀ S:St}{rb x:Nat}{ws:List ByteArray}{v:StepV}{t:Tips}{p:Own}(h:RdrAt (S₀.upd x p) S rb ws v t)(hx0:S₀ x=none):RdrAt S₀ S rb ws v t:=by
 have hn:∀ b,(S₀.upd x p) b=none→S₀ b=none:=fun b hb=>by
  by_cases e:b=x
  ·subst e;exact hx0
  ·rwa [St.upd_ne _ _ _ _ e] at hb
 refine⟨St.le_trans (St.le_upd' (St.le_refl _) hx0 _) h.le,hn _ h.new,h.at_,fun k=>⟨(h.t3 k).1,hn _ (h.t3 k).2⟩,fun k=>⟨(h.t4 k).1,hn _ (h.t4 k).2⟩,fun k=>⟨(h.t6 k).1,hn _ (h.t6 k).2⟩,fun k=>⟨(h.t7 k).1,hn _ (h.t7 k).2⟩⟩
theorem op_ok(hG:GS G){S₀ S:St}{rb:Nat}{ws:List ByteArray}{v:StepV}(h:Rdr S₀ S rb ws v)(hw:OkW ws) :
 Triple P (C G) 146 [.ref rb 0] S fun o S'=>o=.ret (.tu [opAV (opG ws).1,errAV (opG ws).2.1])∧Rdr S₀ S' rb (opG ws).2.2 v:=by
 obtain⟨t,hat⟩:=h;refine triple_of_awp (hT G) hm Tryz.func146 rfl (by decide +kernel) rfl (by decide +kernel) (by show 1≤_;decide +kernel) rfl ?_
 refine awp_seq2 fun K hK hQ=>?_
 conv=>whnf
 intro b2 hb2;conv=>whnf
 refine hK _ _ ?_;clear hK hQ K;have z2:=St.le_none hat.le hb2;have nr2:rb≠b2:=St.ne_of hb2 hat.at_;have hat2:=hat.more hb2 (.obj 201 [.int .i64 0,.str ByteArray.empty,.int .i64 0]);have q2:=St.upd_same S b2 (.obj 201 [.int .i64 0,.str ByteArray.empty,.int .i64 0]);generalize S.upd b2 (.obj 201 [.int .i64 0,.str ByteArray.empty,.int .i64 0])=S1 at *;have hcs:=hat2.at_;have htk:=rtake_ok (G:=G) rb ws _ _ hcs;refine awp_seq2 fun K hK hQ=>?_
 cases ws with
 | nil=>
   conv=>whnf
   refine htk.mono ?_;rintro o S' ⟨rfl,rfl⟩;conv=>whnf
   refine hK _ _ ?_;clear hK hQ K;conv=>whnf
   refine⟨_,_,q2,?_⟩;conv=>whnf
   refine⟨_,_,St.upd_same _ _ _,?_⟩;conv=>whnf
   exact⟨_,_,⟨rfl,t,hat2.put q2 z2 nr2 _⟩,St.le_refl _,AV.leS_refl _ _ _⟩
 | cons w l=>
   have hat3:=hat2.words (ws':=l)
   have hcs3:=hat3.at_
   have hw1:=hw.suffix (List.suffix_cons w l)
   have hws:w.size≤9000000:=hw.1 w (by simp)
   have q2:=St.ov (p:=rdr l (stepC v t)) nr2.symm q2
   conv=>whnf
   refine htk.mono ?_;rintro o S' ⟨rfl,rfl⟩;generalize S1.upd rb (rdr l (stepC v t))=S3 at *;clear htk;conv=>whnf
   refine hK _ _ ?_;clear hK hQ K;unfold opG;dsimp only;refine awp_seq2 fun K hK hQ=>?_
   conv=>whnf
   refine hK _ _ ?_;clear hK hQ K;refine awp_seq2 fun K hK hQ=>?_
   conv=>whnf
   refine(literal_ok hG w hws _).mono ?_;rintro o S' ⟨rfl,rfl⟩;generalize litV w.data.toList=z at *;conv=>whnf
   refine hK _ _ ?_;clear hK hQ K;refine awp_seq2 fun K hK hQ=>?_
   conv=>whnf
   refine split_of (fun hp=>?_) (fun hp=>?_)
   ·have h1:w=plusS:=of_decide_eq_true hp
    simp only[if_pos h1] at hQ;clear hK;conv=>whnf
    refine⟨_,_,q2,?_⟩;conv=>whnf
    refine hQ _ _ _ (by simp) ?_
    conv=>whnf
    refine⟨_,_,St.upd_same _ _ _,?_⟩;conv=>whnf
    exact⟨_,_,⟨rfl,t,hat3.put q2 z2 nr2 _⟩,St.le_refl _,AV.leS_refl _ _ _⟩
   have h1:¬ w=plusS:=of_decide_eq_false hp
   simp only[if_neg h1] at hK hQ;conv=>whnf
   refine split_of (fun hp=>?_) (fun hp=>?_)
   ·have h1:w=sS:=of_decide_eq_true hp
    simp only[if_pos h1] at hQ;clear hK;conv=>whnf
    refine⟨_,_,q2,?_⟩;conv=>whnf
    refine hQ _ _ _ (by simp) ?_
    conv=>whnf
    refine⟨_,_,St.upd_same _ _ _,?_⟩;conv=>whnf
    exact⟨_,_,⟨rfl,t,hat3.put q2 z2 nr2 _⟩,St.le_refl _,AV.leS_refl _ _ _⟩
   have h2:¬ w=sS:=of_decide_eq_false hp
   simp only[if_neg h2] at hK hQ;conv=>whnf
   refine(isNumber_ok w hws 1 (by decide) (by decide) _).mono ?_
   rintro o S' ⟨rfl,rfl⟩
   cases hn1:isNumV w.data.toList 1 with
   | true=>
     simp only[hn1,if_true] at hQ;clear hK;conv=>whnf
     intro mr hmr;conv=>whnf
     refine⟨_,St.upd_same _ _ _,?_⟩;conv=>whnf
     refine⟨_,St.upd_same _ _ _,?_⟩;conv=>whnf
     rw[St.upd_upd,St.upd_upd];have hat4:=hat3.more hmr (.mapo (encM tbN));have q3:(S'.upd mr (.mapo (encM tbN))) b2=some (.obj 201 [.int .i64 0,.str ByteArray.empty,.int .i64 0]):=St.up hmr q2;have nm2:mr≠b2:=fun e=>by subst e;rw[hmr] at q2;cases q2
     have hat4b:=hat4.with q3 nr2
     have hb:=behind_ok (tb:=tbN) (G:=G) (by decide) hat4b (by rw[St.upd_ne _ _ _ _ nm2];exact St.le_none hat3.le hmr) (St.upd_same _ _ _) 1 w 0
     refine hb.mono ?_;rintro o S'' ⟨rfl,t2,hat5⟩;have q4:=hat5.le _ _ (St.upd_same _ _ _);conv=>whnf
     refine⟨_,_,q4,?_⟩;conv=>whnf
     refine hQ _ _ _ (by simp) ?_
     conv=>whnf
     refine⟨_,_,St.upd_same _ _ _,?_⟩;conv=>whnf
     exact⟨_,_,⟨rfl,t2,(hat5.without z2).put q4 z2 nr2 _⟩,St.le_refl _,AV.leS_refl _ _ _⟩
   | false=>
     simp only[hn1,Bool.false_eq_true,if_false] at hK hQ;conv=>whnf
     refine(isNumber_ok w hws (-1) (by decide) (by decide) _).mono ?_
     rintro o S' ⟨rfl,rfl⟩
     cases hn2:isNumV w.data.toList (-1) with
     | true=>
       simp only[hn2,if_true] at hQ;clear hK;conv=>whnf
       refine(fail_ok 81 _).mono ?_;rintro o S' ⟨rfl,rfl⟩;conv=>whnf
       refine⟨_,_,q2,?_⟩;conv=>whnf
       refine hQ _ _ _ (by simp) ?_
       conv=>whnf
       refine⟨_,_,St.upd_same _ _ _,?_⟩;conv=>whnf
       exact⟨_,_,⟨rfl,t,hat3.put q2 z2 nr2 _⟩,St.le_refl _,AV.leS_refl _ _ _⟩
     | false=>
       simp only[hn2,Bool.false_eq_true,if_false] at hK hQ;conv=>whnf
       refine split_of (fun hz=>?_) (fun hz=>?_)
       ·have hz:0<z:=by have:=of_decide_eq_true hz;omega
        simp only[if_pos hz] at hQ;clear hK;conv=>whnf
        intro mr hmr;conv=>whnf
        refine⟨_,St.upd_same _ _ _,?_⟩;conv=>whnf
        rw[St.upd_upd];have hat4:=hat3.more hmr (.mapo (encM tbL));have q3:(S'.upd mr (.mapo (encM tbL))) b2=some (.obj 201 [.int .i64 0,.str ByteArray.empty,.int .i64 0]):=St.up hmr q2;have nm2:mr≠b2:=fun e=>by subst e;rw[hmr] at q2;cases q2
        have hat4b:=hat4.with q3 nr2
        have hb:=behind_ok (tb:=tbL) (G:=G) (by decide) hat4b (by rw[St.upd_ne _ _ _ _ nm2];exact St.le_none hat3.le hmr) (St.upd_same _ _ _) 2 ByteArray.empty z
        refine hb.mono ?_;rintro o S'' ⟨rfl,t2,hat5⟩;have q4:=hat5.le _ _ (St.upd_same _ _ _);conv=>whnf
        refine⟨_,_,q4,?_⟩;conv=>whnf
        refine hQ _ _ _ (by simp) ?_
        conv=>whnf
        refine⟨_,_,St.upd_same _ _ _,?_⟩;conv=>whnf
        exact⟨_,_,⟨rfl,t2,(hat5.without z2).put q4 z2 nr2 _⟩,St.le_refl _,AV.leS_refl _ _ _⟩
       have hz:¬ 0<z:=by have:=of_decide_eq_false hz;omega
       simp only[if_neg hz] at hK hQ;conv=>whnf
       refine split_of (fun hz2=>?_) (fun hz2=>?_)
       ·have hz2:z<0:=of_decide_eq_true hz2
        simp only[if_pos hz2] at hQ;clear hK;conv=>whnf
        refine⟨_,_,q2,?_⟩;conv=>whnf
        refine hQ _ _ _ (by simp) ?_
        conv=>whnf
        refine⟨_,_,St.upd_same _ _ _,?_⟩;conv=>whnf
        exact⟨_,_,⟨rfl,t,hat3.put q2 z2 nr2 _⟩,St.le_refl _,AV.leS_refl _ _ _⟩
       have hz2:¬ z<0:=of_decide_eq_false hz2
       simp only[if_neg hz2] at hK;conv=>whnf
       refine hK _ _ ?_;clear hK hQ K;conv=>whnf
       refine(fail_ok 80 _).mono ?_;rintro o S' ⟨rfl,rfl⟩;conv=>whnf
       refine⟨_,_,q2,?_⟩;conv=>whnf
       refine⟨_,_,St.upd_same _ _ _,?_⟩;conv=>whnf
       exact⟨_,_,⟨rfl,t,hat3.put q2 z2 nr2 _⟩,St.le_refl _,AV.leS_refl _ _ _⟩
abbrev OpV:=Int×ByteArray×Int
def polF:Nat→List ByteArray→List OpV→List OpV×Int×List ByteArray
 | 0,ws,ops=>(ops,0,ws)
 | f+1,ws,ops=>if ops=[]∨ws≠[] then (if (opG ws).2.1=0 then polF f (opG ws).2.2 (ops++[(opG ws).1]) else (ops,(opG ws).2.1,(opG ws).2.2)) else (ops,0,ws)
def polG(ws:List ByteArray)(v:StepV):RetG:=((polF (ws.length+2) ws v.ops).2.1,(polF (ws.length+2) ws v.ops).2.2,{ v with kind:=3,ops:=(polF (ws.length+2) ws v.ops).1 })
theorem opG_lt(ws:List ByteArray)(h:(opG ws).2.1=0):(opG ws).2.2.length<ws.length:=by
 cases ws with
 | nil=>simp[opG] at h
 | cons w l=>
   have:(opG (w::l)).2.2 <:+ l:=by
    unfold opG;dsimp only
    repeat' split
    all_goals first | exact List.suffix_refl _ | exact behindG_suffix _ _ _
   have:=this.length_le
   simp only[List.length_cons];omega
theorem rowsO_snoc(l:List OpV)(x:OpV):rowsO l++[[.int .i64 x.1,.str x.2.1,.int .i64 x.2.2]]=rowsO (l++[x]):=by simp[rowsO]
theorem pol_ok(hG:GS G){S₀ S:St}{rb:Nat}{ws:List ByteArray}{v:StepV}(h:Rdr S₀ S rb ws v)(hw:OkW ws)(hv:OkV v) :
 Triple P (C G) 116 [.ref rb 0] S fun o S'=>o=.ret (errAV (polG ws v).1)∧Rdr S₀ S' rb (polG ws v).2.1 (polG ws v).2.2:=by
 obtain⟨t,hat⟩:=h;have hcs:=hat.at_;have hat2:=hat.set (v':={ v with kind:=3 }) (ws':=ws) rfl rfl rfl rfl;unfold polG;refine triple_of_awp (hT G) hm Tryz.func116 rfl (by decide +kernel) rfl (by decide +kernel) (by show 1≤_;decide +kernel) rfl ?_
 refine awp_seq2 fun K hK hQ=>?_
 conv=>whnf
 refine hK _ _ ?_;clear hK hQ K;refine awp_seq2 fun K hK hQ=>?_
 conv=>whnf
 refine⟨_,_,hcs,?_⟩;conv=>whnf
 refine hK _ _ ?_;clear hK hQ K;refine awp_seq2 fun K hK hQ=>?_
 conv=>whnf
 refine⟨⟨Nat×List ByteArray×List OpV,fun _=>[(0,.ref rb 0)],
  fun x S'=>Rdr S₀ S' rb x.2.1 { v with kind:=3,ops:=x.2.2 }∧polF x.1 x.2.1 x.2.2=polF (ws.length+2) ws v.ops∧x.2.1.length<x.1∧x.2.1.length+x.2.2.length≤10000000∧OkW x.2.1,fun x=>x.2.1.length⟩,
  ⟨(ws.length+2,ws,v.ops),⟨rfl,trivial⟩,⟨_,St.leW_refl _,⟨t,hat2⟩,rfl,by show ws.length<ws.length+2;omega,by have:=hw.2;have:=hv.1;show ws.length+v.ops.length≤_;omega,hw⟩⟩,?_⟩
 rintro⟨f,l,ops⟩ S1 ⟨⟨t1,hat3⟩,h2,h3,h4,h5⟩;dsimp only at hat3 h2 h3 h4 h5;have hcs3:=hat3.at_;obtain⟨f,rfl⟩:∃ f',f=f'+1:=⟨f-1,by omega⟩
 rw[← h2] at hK hQ ⊢;clear h2
 by_cases hgo:ops=[]∨l≠[]
 ·simp only[polF,if_pos hgo] at hK hQ ⊢;have hop:=op_ok (G:=G) hG ⟨t1,hat3⟩ h5;have hlt:=opG_lt l;have hsf:=h5.suffix (opG_suffix l);generalize (opG l).1=o at *;generalize (opG l).2.1=e at *;generalize (opG l).2.2=l2 at *
  cases ops with
  | nil=>
    conv=>whnf
    refine⟨_,_,hcs3,?_⟩;conv=>whnf
    intro _;conv=>whnf
    refine hop.mono ?_;rintro o' S2 ⟨rfl,t2,hat4⟩
    by_cases he:e=0
    ·simp only[if_pos he] at hK hQ ⊢;simp only[errAV,if_pos he];have hlt:=hlt he;conv=>whnf
     intro b3 hb3;conv=>whnf
     refine⟨_,_,St.upd_same _ _ _,?_⟩;conv=>whnf
     rw[St.upd_upd];have hat5:=hat4.more hb3 (.obj 201 [.int .i64 o.1,.str o.2.1,.int .i64 o.2.2]);have q3:=St.upd_same S2 b3 (.obj 201 [.int .i64 o.1,.str o.2.1,.int .i64 o.2.2]);generalize S2.upd b3 (.obj 201 [.int .i64 o.1,.str o.2.1,.int .i64 o.2.2])=S3 at *;have hcs5:=hat5.at_;refine⟨[],(.free 0 (.free 1 (.free 2 (.free 3 (.free 4 (.free 5 (.free 6 (.one 7 (.one 8 (.free 9 (.free 10 (.free 11 (.one 12 .done .none)))) .none) .none)))))))),_,by decide +kernel,?_,fun _ _ h=>⟨_,.inl rfl,h⟩⟩
     conv=>whnf
     refine⟨_,_,hcs5,?_⟩;conv=>whnf
     refine⟨_,_,q3,?_⟩;conv=>whnf
     intro bb hbb;have hat6:=hat5.more hbb (.tip 201 3 1);conv=>whnf
     refine⟨⟨fun hl=>?_,?_⟩,fun S4 c1 c2 b' c3=>?_⟩
     ·have:0<(([]:List OpV)).length:=by
       cases hx:(([]:List OpV):List OpV) with
       | nil=>rw[hx] at hl;exact absurd rfl hl
       | cons _ _=>simp
      rw[rowsO_len];exact(hat6.t3 this).1
     ·show((rowsO (([]:List OpV))).length+1)*32≤_
      rw[rowsO_len];first | (simp at h4 ⊢;done) | (simp at h4 ⊢;omega)
     have ha:AccStep (_:St) t2.b3 201 3 (([]:List OpV)).length 1 b' (S4.upd b' (.tip 201 3 ((([]:List OpV)).length+1))):=.inr ⟨by simp,S4,fun e=>c1 (by rw[List.eq_nil_of_length_eq_zero e];rfl),fun e=>c2 (by intro hh;have h':(([]:List OpV):List OpV).length=0:=(rowsO_len _).symm.trans (congrArg List.length hh);omega),c3,rfl⟩
     obtain⟨k1,k2⟩:=hat6.push3 ha (new:=[o]) rfl;rw[show rowsO ({ v with kind:=3,ops:=([]:List OpV) }:StepV).ops++[[AV.int .i64 o.1,AV.str o.2.1,AV.int .i64 o.2.2]]=rowsO (([]:List OpV)++[o]) from rowsO_snoc (([]:List OpV)) o,show(rowsO ({ v with kind:=3,ops:=([]:List OpV) }:StepV).ops).length=(([]:List OpV)).length from rowsO_len (([]:List OpV))];conv=>whnf
     refine⟨_,_,k1,?_⟩;conv=>whnf
     refine⟨(f,l2,([]:List OpV)++[o]),⟨rfl,trivial⟩,⟨_,St.leW_refl _,⟨_,k2⟩,?_,?_,?_,hsf⟩,?_⟩
     ·rfl
     ·show l2.length<f
      omega
     ·show l2.length+(([]:List OpV)++[o]).length≤_
      try simp at hlt
      simp at h4 ⊢;omega
     ·show l2.length<_
      exact hlt
    ·simp only[if_neg he] at hQ;simp only[errAV,if_neg he] at hQ ⊢;clear hK;conv=>whnf
     intro b3 hb3;conv=>whnf
     refine⟨_,_,St.upd_same _ _ _,?_⟩;conv=>whnf
     refine hQ _ _ _ (by simp) ?_
     conv=>whnf
     exact⟨_,_,⟨rfl,t2,by rw[St.upd_upd];exact hat4.more hb3 _⟩,St.le_refl _,AV.leS_refl _ _ _⟩
  | cons o1 ops=>
    cases l with
    | nil=>exact absurd hgo (by simp)
    | cons w l=>
      conv=>whnf
      refine⟨_,_,hcs3,?_⟩;conv=>whnf
      intro _;conv=>whnf
      refine⟨_,_,hcs3,?_⟩;conv=>whnf
      intro _;refine split_of (fun hh=>?_) (fun hh=>by simp[rowsS] at hh)
      refine hop.mono ?_;rintro o' S2 ⟨rfl,t2,hat4⟩
      by_cases he:e=0
      ·simp only[if_pos he] at hK hQ ⊢;simp only[errAV,if_pos he];have hlt:=hlt he;conv=>whnf
       intro b3 hb3;conv=>whnf
       refine⟨_,_,St.upd_same _ _ _,?_⟩;conv=>whnf
       rw[St.upd_upd];have hat5:=hat4.more hb3 (.obj 201 [.int .i64 o.1,.str o.2.1,.int .i64 o.2.2]);have q3:=St.upd_same S2 b3 (.obj 201 [.int .i64 o.1,.str o.2.1,.int .i64 o.2.2]);generalize S2.upd b3 (.obj 201 [.int .i64 o.1,.str o.2.1,.int .i64 o.2.2])=S3 at *;have hcs5:=hat5.at_;refine⟨[],(.free 0 (.free 1 (.free 2 (.free 3 (.free 4 (.free 5 (.free 6 (.one 7 (.one 8 (.free 9 (.free 10 (.free 11 (.one 12 .done .none)))) .none) .none)))))))),_,by decide +kernel,?_,fun _ _ h=>⟨_,.inl rfl,h⟩⟩
       conv=>whnf
       refine⟨_,_,hcs5,?_⟩;conv=>whnf
       refine⟨_,_,q3,?_⟩;conv=>whnf
       intro bb hbb;have hat6:=hat5.more hbb (.tip 201 3 1);conv=>whnf
       refine⟨⟨fun hl=>?_,?_⟩,fun S4 c1 c2 b' c3=>?_⟩
       ·have:0<((o1::ops)).length:=by
         cases hx:((o1::ops):List OpV) with
         | nil=>rw[hx] at hl;exact absurd rfl hl
         | cons _ _=>simp
        rw[rowsO_len];exact(hat6.t3 this).1
       ·show((rowsO ((o1::ops))).length+1)*32≤_
        rw[rowsO_len];first | (simp at h4 ⊢;done) | (simp at h4 ⊢;omega)
       have ha:AccStep (_:St) t2.b3 201 3 ((o1::ops)).length 1 b' (S4.upd b' (.tip 201 3 (((o1::ops)).length+1))):=.inr ⟨by simp,S4,fun e=>c1 (by rw[List.eq_nil_of_length_eq_zero e];rfl),fun e=>c2 (by intro hh;have h':((o1::ops):List OpV).length=0:=(rowsO_len _).symm.trans (congrArg List.length hh);omega),c3,rfl⟩
       obtain⟨k1,k2⟩:=hat6.push3 ha (new:=[o]) rfl;rw[show rowsO ({ v with kind:=3,ops:=(o1::ops) }:StepV).ops++[[AV.int .i64 o.1,AV.str o.2.1,AV.int .i64 o.2.2]]=rowsO ((o1::ops)++[o]) from rowsO_snoc ((o1::ops)) o,show(rowsO ({ v with kind:=3,ops:=(o1::ops) }:StepV).ops).length=((o1::ops)).length from rowsO_len ((o1::ops))];conv=>whnf
       refine⟨_,_,k1,?_⟩;conv=>whnf
       refine⟨(f,l2,(o1::ops)++[o]),⟨rfl,trivial⟩,⟨_,St.leW_refl _,⟨_,k2⟩,?_,?_,?_,hsf⟩,?_⟩
       ·rfl
       ·show l2.length<f
        omega
       ·show l2.length+((o1::ops)++[o]).length≤_
        try simp at hlt
        simp at h4 ⊢;omega
       ·show l2.length<_
        exact hlt
      ·simp only[if_neg he] at hQ;simp only[errAV,if_neg he] at hQ ⊢;clear hK;conv=>whnf
       intro b3 hb3;conv=>whnf
       refine⟨_,_,St.upd_same _ _ _,?_⟩;conv=>whnf
       refine hQ _ _ _ (by simp) ?_
       conv=>whnf
       exact⟨_,_,⟨rfl,t2,by rw[St.upd_upd];exact hat4.more hb3 _⟩,St.le_refl _,AV.leS_refl _ _ _⟩
 ·have ho:ops≠[]:=fun e=>hgo (.inl e)
  have hl:l=[]:=by
   cases l with
   | nil=>rfl
   | cons _ _=>exact absurd (.inr (by simp)) hgo
  subst hl;simp only[polF,if_neg hgo] at hK hQ;conv=>whnf
  refine⟨_,_,hcs3,?_⟩;conv=>whnf
  intro _
  cases ops with
  | nil=>exact absurd rfl ho
  | cons o ops=>
    conv=>whnf
    refine⟨_,_,hcs3,?_⟩;conv=>whnf
    intro _;conv=>whnf
    refine hK _ _ ?_;clear hK hQ K;conv=>whnf
    exact⟨_,_,⟨rfl,t1,hat3⟩,St.le_refl _,AV.leS_refl _ _ _⟩
theorem AccOk.over{S S₁:St}{e:TypeId}{k b n:Nat}(h:AccOk S S₁ e k b n){x:Nat}{o:Own}(hx:S x=some o)(p:Own):AccOk (S.upd x p) (S₁.upd x p) e k b n:=by
 have hne:0<n→b≠x:=fun hn e=>by have:=h.new hn;rw[e,hx] at this;cases this
 exact⟨St.le_upd2 h.le _ _,fun hn=>by rw[St.upd_ne _ _ _ _ (hne hn)];exact h.tip hn,fun hn=>by rw[St.upd_ne _ _ _ _ (hne hn)];exact h.new hn⟩
end Go.Proofs.YtjpboanohpaibaaGreatDoor.Aw

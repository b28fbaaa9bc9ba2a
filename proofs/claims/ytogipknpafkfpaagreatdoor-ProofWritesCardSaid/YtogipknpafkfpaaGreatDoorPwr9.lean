/- Package big, walked: Text, Small. Package big, walked: Small. And strconv.Atoi. Package proof, walked: isNumber, literal -/
import Derived.Test.YtogipknpafkfpaaGreatDoorPwr8
import Derived.Lib.ItoaMem
import Derived.Lib.AtoiErrMem
import Derived.Test.YtogipknpafkfpaaGreatDoorPwr7
import Derived.Test.YtogipknpafkfpaaGreatDoorPwr5
set_option linter.all false
set_option maxRecDepth 100000
namespace Go.Proofs.YtogipknpafkfpaaGreatDoor.Aw
open Go Go.RowKit
variable {G:Nat→Option (List AV)}
theorem nDigits_le:∀ (k u:Nat),u<10 ^ (k+1)→Lib.nDigits u≤k+1
 | 0,u,h=>by rw[Lib.nDigits_small (by simpa using h)];exact Nat.le_refl _
 | k+1,u,h=>by
   by_cases hu:u<10
   ·rw[Lib.nDigits_small hu];omega
   ·rw[Lib.nDigits_big hu];have:=nDigits_le k (u / 10) (by rw[Nat.pow_succ] at h;omega)
    omega
theorem itoaS_list(n:Int):(itoaS n).data.toList=Lib.itoa n:=by simp[itoaS]
theorem itoaS_size(n:Int):(itoaS n).size=(Lib.itoa n).length:=by rw[← itoaS_list];rfl
theorem itoa_len9{d:Nat}(h:d<1000000000):(Lib.itoa (d:Int)).length≤9:=by
 rw[Lib.itoa_nonneg,Lib.decDigits_length];exact nDigits_le 8 d h
def repS(s:ByteArray)(c:Nat):ByteArray:=⟨(Lib.repeatL s.data.toList c).toArray⟩
theorem repeat_ok(s:ByteArray)(c:Nat)(hc:c≤1000000000)(hl:s.size*c≤140737488355328)(S:St):Triple P (C G) 188 [.str s,.int .i64 (c:Int)] S fun o S'=>o=.ret (.str (repS s c))∧S'=S:=by
 refine Triple.of_calls (x:=.str (repS s c)) Tryz.func188 rfl (by decide +kernel) (fun w vs hg hr=>?_) ⟨rfl,rfl⟩
 obtain⟨u,v,hv,r1,r2⟩:=RelL.two hr;simp only[Rel] at r1 r2;subst r1 r2;rw[show vs=#[.string s,.int .i64 (c:Int)] from arr_of_list hv];refine(Tryz.strings_Repeat s c w (by omega) hl).mono fun e w' he=>?_
 obtain⟨rfl,hb⟩:=he;exact⟨_,rfl,by simp only[Rel];rfl,hb⟩
def BldW(S₀ S:St)(b:Nat)(s:List UInt8):Prop:=St.le S₀ S∧∃ S1,St.leW S1 S∧BldOk S₀ S1 b s
theorem BldOk.w{S₀ S:St}{b:Nat}{s:List UInt8}(h:BldOk S₀ S b s):BldW S₀ S b s:=⟨h.le,S,St.leW_refl _,h⟩
theorem BldW.string{S₀ S:St}{b:Nat}{s:List UInt8}(h:BldW S₀ S b s):Triple P (C G) 43 [.ref b 0] S fun o S'=>o=.ret (.str ⟨s.toArray⟩)∧St.le S₀ S':=by
 obtain⟨_,S1,h1,h2⟩:=h;exact Triple.weakS (String_ok h2) h1
theorem BldW.write{S₀ S:St}{b:Nat}{s:List UInt8}(h:BldW S₀ S b s)(x:ByteArray)(hx:s.length+x.size≤140737488355328):Triple P (C G) 42 [.ref b 0,.str x] S fun o S'=>o=.ret (.tu [.int .i64 (x.size:Int),.nili])∧BldW S₀ S' b (s++x.data.toList):=by
 obtain⟨_,S1,h1,h2⟩:=h;refine(Triple.weakS (WriteString_ok h2 x hx) h1).mono ?_;rintro o S' ⟨rfl,h3⟩;exact⟨rfl,h3.w⟩
theorem BldW.byte{S₀ S:St}{b:Nat}{s:List UInt8}(h:BldW S₀ S b s)(c:UInt8)(hx:s.length+1≤140737488355328):Triple P (C G) 187 [.ref b 0,.int .u8 (c.toNat:Int)] S fun o S'=>o=.ret .nili∧BldW S₀ S' b (s++[c]):=by
 obtain⟨_,S1,h1,h2⟩:=h;refine(Triple.weakS (WriteByte_ok h2 c hx) h1).mono ?_;rintro o S' ⟨rfl,h3⟩;exact⟨rfl,h3.w⟩
theorem BldW.new{S:St}{b:Nat}(hb:S b=none):BldW S (S.upd b (.obj 89 [.nilp,.nils])) b []:=by
 have h1:=St.leW_upd (cs':=[.nilp,.sl (.acc 0) 1 (rowsL [])]) (St.upd_same S b (.obj 89 [.nilp,.nils])) ⟨rfl,rfl,trivial⟩
 rw[St.upd_upd] at h1;exact⟨St.le_upd' (St.le_refl _) hb _,_,h1,St.le_upd' (St.le_refl _) hb _,hb,.nilp,0,.inl rfl,St.upd_same _ _ _,fun h=>absurd rfl h⟩
theorem St.leW_over{S1 S:St}(h:St.leW S1 S)(x:Nat)(o:Own):St.leW (S1.upd x o) (S.upd x o):=fun b=>by
 by_cases hb:b=x
 ·subst hb;rw[St.upd_same,St.upd_same];exact .inl rfl
 ·rw[St.upd_ne _ _ _ _ hb,St.upd_ne _ _ _ _ hb];exact h b
theorem St.leW_del{S1 S:St}(h:St.leW S1 S)(x:Nat):St.leW (S1.del x) (S.del x):=fun b=>by
 by_cases hb:b=x
 ·subst hb;rw[St.del_same,St.del_same];exact .inl rfl
 ·rw[St.del_ne _ _ _ hb,St.del_ne _ _ _ hb];exact h b
theorem St.le_over{S₀ S:St}(h:St.le S₀ S)(x:Nat)(o:Own):St.le (S₀.upd x o) (S.upd x o):=fun b p hp=>by
 by_cases hb:b=x
 ·subst hb;rw[St.upd_same] at hp ⊢;exact hp
 ·rw[St.upd_ne _ _ _ _ hb] at hp ⊢;exact h b p hp
theorem St.le_dels{S₀ S:St}(h:St.le S₀ S)(x:Nat):St.le (S₀.del x) (S.del x):=fun b p hp=>by
 by_cases hb:b=x
 ·subst hb;rw[St.del_same] at hp;cases hp
 ·rw[St.del_ne _ _ _ hb] at hp ⊢;exact h b p hp
theorem BldW.over{S₀ S:St}{b x:Nat}{s:List UInt8}(h:BldW S₀ S b s)(hx:S x=none∨∃ o,S₀ x=some o)(o:Own):BldW (S₀.upd x o) (S.upd x o) b s:=by
 obtain⟨h0,S1,h1,h2⟩:=h;obtain⟨p,t,hp,hS,ht⟩:=h2.at_;have hbx:b≠x:=by
  rintro rfl
  rcases hx with hx | ⟨o,hx⟩
  ·rw[St.leW_none h1 hx] at hS;cases hS
  ·rw[h2.new] at hx;cases hx
 have htx:s≠[]→t≠x:=by
  rintro hs rfl;obtain⟨k1,k2,k3⟩:=ht hs
  rcases hx with hx | ⟨o,hx⟩
  ·rw[St.leW_none h1 hx] at k1;cases k1
  ·rw[k2] at hx;cases hx
 refine⟨St.le_over h0 x o,_,St.leW_over h1 x o,St.le_over h2.le x o,by rw[St.upd_ne _ _ _ _ hbx];exact h2.new,p,t,hp,by rw[St.upd_ne _ _ _ _ hbx];exact hS,fun hs=>?_⟩
 obtain⟨k1,k2,k3⟩:=ht hs;rw[St.upd_ne _ _ _ _ (htx hs),St.upd_ne _ _ _ _ (htx hs)];exact⟨k1,k2,k3⟩
theorem BldW.del{S₀ S:St}{b x:Nat}{s:List UInt8}(h:BldW S₀ S b s)(hx:∃ o,S₀ x=some o):BldW (S₀.del x) (S.del x) b s:=by
 obtain⟨h0,S1,h1,h2⟩:=h;obtain⟨p,t,hp,hS,ht⟩:=h2.at_;obtain⟨o,hx⟩:=hx;have hbx:b≠x:=by
  rintro rfl;rw[h2.new] at hx;cases hx
 have htx:s≠[]→t≠x:=by
  rintro hs rfl;obtain⟨k1,k2,k3⟩:=ht hs;rw[k2] at hx;cases hx
 refine⟨St.le_dels h0 x,_,St.leW_del h1 x,St.le_dels h2.le x,by rw[St.del_ne _ _ _ hbx];exact h2.new,p,t,hp,by rw[St.del_ne _ _ _ hbx];exact hS,fun hs=>?_⟩
 obtain⟨k1,k2,k3⟩:=ht hs;rw[St.del_ne _ _ _ (htx hs),St.del_ne _ _ _ (htx hs)];exact⟨k1,k2,k3⟩
def textK(l:List Nat)(pre:List UInt8):Nat→List UInt8
 | 0=>pre
 | k+1=>textK l pre k++((if k=0 then [] else Lib.repeatL [48] (9-(Lib.itoa ((l.getD (l.length-1-k) 0:Nat):Int)).length))++Lib.itoa ((l.getD (l.length-1-k) 0:Nat):Int))
def textF(neg:Bool)(l:List Nat):List UInt8:=textK l (if neg then [45] else []) l.length
theorem textK_len(l:List Nat)(pre:List UInt8)(hd:∀ d∈l,d<1000000000)(hp:pre.length≤1):∀ k,(textK l pre k).length≤1+18*k
 | 0=>by simpa [textK] using hp
 | k+1=>by
   have:=textK_len l pre hd hp k
   have h9:(Lib.itoa ((l.getD (l.length-1-k) 0:Nat):Int)).length≤9:=by
    refine itoa_len9 ?_;simp only[List.getD]
    cases h:l[l.length-1-k]? with
    | none=>simp
    | some d=>exact hd d (List.mem_of_getElem? h)
   simp only[textK,List.length_append]
   split
   ·simp only[List.length_nil];omega
   ·rw[Lib.repeatL_length];simp only[List.length_cons,List.length_nil];omega
theorem St.upd_id{S:St}{x:Nat}{o:Own}(h:S x=some o):S.upd x o=S:=by
 funext y
 by_cases hy:y=x
 ·subst hy;rw[St.upd_same,h]
 ·rw[St.upd_ne _ _ _ _ hy]
theorem Text_far(hG:G10 G)(neg:Bool)(l:List Nat)(hl0:l≠[])(hd:∀ d∈l,d<1000000000)(hl:l.length≤1000000)(S:St) :
 Triple P (C G) 177 [farAV neg l] S fun o S'=>o=.ret (.str ⟨(textF neg l).toArray⟩)∧S'=S:=by
 refine triple_of_awp (hT G) hm Tryz.func177 rfl (by decide +kernel) rfl (by decide +kernel) (by show 1≤_;decide +kernel) rfl ?_
 refine awp_seq2 fun K hK hQ=>?_
 conv=>whnf
 intro b1 hb1;conv=>whnf
 refine hK _ _ ?_;clear hK hQ K;refine awp_seq2 fun K hK hQ=>?_
 conv=>whnf
 refine⟨_,_,St.upd_same _ _ _,?_⟩;conv=>whnf
 intro c hc;have hc:=hc (rowsU_ne hl0);subst hc;conv=>whnf
 refine hK _ _ ?_;clear hK hQ K;refine awp_seq2 fun K hK hQ=>?_
 conv=>whnf
 intro b3 hb3;conv=>whnf
 refine hK _ _ ?_;clear hK hQ K;have k1:=St.upd_same S b1 (.obj 244 [.int .i64 0,.bool neg,.sl .any 1 (rowsU l)]);have hnew:=BldW.new hb3;have hle01:St.le S (S.upd b1 (.obj 244 [.int .i64 0,.bool neg,.sl .any 1 (rowsU l)])):=St.le_upd' (St.le_refl _) hb1 _;generalize S.upd b1 (.obj 244 [.int .i64 0,.bool neg,.sl .any 1 (rowsU l)])=S1 at *;generalize S1.upd b3 (.obj 89 [.nilp,.nils])=S2 at *;refine awp_seq2 fun K hK hQ=>?_
 conv=>whnf
 refine⟨_,_,hnew.1 _ _ k1,?_⟩;conv=>whnf
 refine split_of (fun hneg=>?_) (fun hneg=>?_)
 ·subst hneg;conv=>whnf
  refine(hnew.byte 45 (by simp)).mono ?_
  rintro o S3 ⟨rfl,h3⟩;conv=>whnf
  refine hK _ _ ?_;clear hK hQ K
  -- S3,h3:BldW S1 S3 b3 pre;k1:S1 b1=..
  have hk1:=h3.1 _ _ k1
  refine awp_seq2 fun K hK hQ=>?_
  conv=>whnf
  refine⟨_,_,hk1,?_⟩;conv=>whnf
  refine(Backward_ok l _).mono ?_;rintro o S' ⟨bs,hbs,rfl,rfl⟩;have h4:=h3.over (.inl hbs) (.obj 242 [.sl .any 1 (rowsU l)]);conv=>whnf
  intro l0 R hl0;have h5:=h4.over (.inl hl0) (.lp R .ready);have nl:bs≠l0:=(St.ne_upd hl0).symm;have n1:b1≠bs:=St.ne_of hbs hk1;have n2:b1≠l0:=St.ne_of hl0 (St.ov n1 hk1);have f1:((S1.upd bs (.obj 242 [.sl .any 1 (rowsU l)])).upd l0 (.lp R .ready)) b1=some (.obj 244 [.int .i64 0,.bool true,.sl .any 1 (rowsU l)]):=St.ov n2 (St.ov n1 k1);have fb:((S1.upd bs (.obj 242 [.sl .any 1 (rowsU l)])).upd l0 (.lp R .ready)) bs=some (.obj 242 [.sl .any 1 (rowsU l)]):=St.ov nl (St.upd_same _ _ _);have fl:((S1.upd bs (.obj 242 [.sl .any 1 (rowsU l)])).upd l0 (.lp R .ready)) l0=some (.lp R .ready):=St.upd_same _ _ _;have le1:St.le S1 (((S1.upd bs (.obj 242 [.sl .any 1 (rowsU l)])).upd l0 (.lp R .ready)).del l0):=by
   have nb:S1 bs=none:=by
    cases e:S1 bs with
    | none=>rfl
    | some o=>rw[h3.1 _ _ e] at hbs;cases hbs
   have n0:S1 l0=none:=by
    cases e:S1 l0 with
    | none=>rfl
    | some o=>rw[St.ov (St.ne_of nb e) (h3.1 _ _ e)] at hl0;cases hl0
   exact St.le_del' (St.le_upd (St.le_upd (St.le_refl _) nb _) n0 _) n0
  generalize ((S1.upd bs (.obj 242 [.sl .any 1 (rowsU l)])).upd l0 (.lp R .ready))=S0 at *;refine(Backward1_ok l (by omega) bs l0 _ (fun k S'=>BldW S0 S' b3 (textK l [45] k)) _ h5 (fun k S' _ h=>h.1 _ _ fb) (fun k S' hk2 hI K hK=>?_)).mono ?_
  ·refine⟨⟨hI.1 _ _ fl,rfl⟩,?_⟩;conv=>whnf
   refine⟨hI.1 _ _ fl,?_⟩;have hI1:=hI.over (.inr ⟨_,fl⟩) (.lp R .busy);have f1':(S0.upd l0 (.lp R .busy)) b1=some (.obj 244 [.int .i64 0,.bool true,.sl .any 1 (rowsU l)]):=St.ov n2 f1;have fl':=St.upd_same S0 l0 (.lp R .busy);have hS0:(S0.upd l0 (.lp R .busy)).upd l0 (.lp R .ready)=S0:=by rw[St.upd_upd];exact St.upd_id fl
   have edd:l.getD (l.length-1-k) 0=l[l.length-1-k]:=by simp only[List.getD];rw[List.getElem?_eq_getElem (by omega)];rfl
   have hdd:=hd _ (List.getElem_mem (show l.length-1-k<l.length by omega))
   have htl:=textK_len l [45] hd (by simp) k
   have hnx:textK l [45] (k+1)=textK l [45] k++((if k=0 then [] else Lib.repeatL [48] (9-(Lib.itoa ((l[l.length-1-k]:Nat):Int)).length))++Lib.itoa ((l[l.length-1-k]:Nat):Int)):=by rw[← edd];rfl
   generalize l[l.length-1-k]=d at *;generalize textK l [45] k=tk at *;rw[hnx] at hK;have h9:=itoa_len9 hdd;have wd:IntKind.i64.wrap (d:Int)=(d:Int):=wrap_i64 (by omega) (by omega)
   conv=>whnf
   rw[wd];refine(itoa_ok hG (d:Int) (by omega) (by omega) _).mono ?_
   rintro o S4 ⟨rfl,rfl⟩;conv=>whnf
   refine⟨_,_,hI1.1 _ _ f1',?_⟩;conv=>whnf
   intro _;conv=>whnf
   have wl:IntKind.i64.wrap (((rowsU l).length:Int)-1)=(l.length:Int)-1:=by rw[rowsU_len,wrap_i64 (by omega) (by omega)]
   rw[wl];refine split_of (fun hlt=>?_) (fun hlt=>?_)
   ·have hk0:k≠0:=by have:=of_decide_eq_true hlt;omega
    rw[if_neg hk0] at hK;conv=>whnf
    have e9:IntKind.i64.wrap (9-((itoaS (d:Int)).size:Int))=((9-(Lib.itoa (d:Int)).length:Nat):Int):=by rw[itoaS_size,wrap_i64 (by omega) (by omega)];omega
    rw[e9];refine(repeat_ok _ (9-(Lib.itoa (d:Int)).length) (by omega) (by show 1*_≤_;omega) _).mono ?_
    rintro o S4 ⟨rfl,rfl⟩;conv=>whnf
    have er:(repS ⟨#[48]⟩ (9-(Lib.itoa (d:Int)).length)).data.toList=Lib.repeatL [48] (9-(Lib.itoa (d:Int)).length):=by simp[repS]
    have erl:(repS ⟨#[48]⟩ (9-(Lib.itoa (d:Int)).length)).size=9-(Lib.itoa (d:Int)).length:=by
     show(repS ⟨#[48]⟩ (9-(Lib.itoa (d:Int)).length)).data.toList.length=_
     rw[er,Lib.repeatL_length];simp
    refine(hI1.write (repS ⟨#[48]⟩ (9-(Lib.itoa (d:Int)).length)) (by rw[erl];omega)).mono ?_
    rintro o S4 ⟨rfl,hI2⟩;rw[er] at hI2;conv=>whnf
    refine(hI2.write (itoaS (d:Int)) (by rw[List.length_append,Lib.repeatL_length,itoaS_size];simp;omega)).mono ?_
    rintro o S5 ⟨rfl,hI3⟩;rw[itoaS_list,List.append_assoc] at hI3;conv=>whnf
    refine⟨hI3.1 _ _ fl',?_⟩;conv=>whnf
    have hI4:=hI3.over (.inr ⟨_,fl'⟩) (.lp R .ready)
    rw[hS0] at hI4;exact hK _ hI4
   ·have hk0:k=0:=by have:=of_decide_eq_false hlt;omega
    rw[if_pos hk0,List.nil_append] at hK;conv=>whnf
    refine(hI1.write (itoaS (d:Int)) (by rw[itoaS_size];omega)).mono ?_
    rintro o S5 ⟨rfl,hI3⟩;rw[itoaS_list] at hI3;conv=>whnf
    refine⟨hI3.1 _ _ fl',?_⟩;conv=>whnf
    have hI4:=hI3.over (.inr ⟨_,fl'⟩) (.lp R .ready)
    rw[hS0] at hI4;exact hK _ hI4
  ·rintro o S' ⟨⟨x,rfl⟩,h6⟩;refine⟨⟨_,rfl⟩,.ready,h6.1 _ _ fl,?_⟩;have h7:=h6.del ⟨_,fl⟩;conv=>whnf
   refine hK _ _ ?_;clear hK hQ K;conv=>whnf
   refine h7.string.mono ?_;rintro o S'' ⟨rfl,h8⟩;conv=>whnf
   exact⟨_,_,⟨rfl,rfl⟩,St.le_trans hle01 (St.le_trans le1 h8),AV.leS_refl _ _ _⟩
 ·subst hneg;conv=>whnf
  refine hK _ _ ?_;clear hK hQ K;have h3:=hnew
  -- S3,h3:BldW S1 S3 b3 pre;k1:S1 b1=..
  have hk1:=h3.1 _ _ k1
  refine awp_seq2 fun K hK hQ=>?_
  conv=>whnf
  refine⟨_,_,hk1,?_⟩;conv=>whnf
  refine(Backward_ok l _).mono ?_;rintro o S' ⟨bs,hbs,rfl,rfl⟩;have h4:=h3.over (.inl hbs) (.obj 242 [.sl .any 1 (rowsU l)]);conv=>whnf
  intro l0 R hl0;have h5:=h4.over (.inl hl0) (.lp R .ready);have nl:bs≠l0:=(St.ne_upd hl0).symm;have n1:b1≠bs:=St.ne_of hbs hk1;have n2:b1≠l0:=St.ne_of hl0 (St.ov n1 hk1);have f1:((S1.upd bs (.obj 242 [.sl .any 1 (rowsU l)])).upd l0 (.lp R .ready)) b1=some (.obj 244 [.int .i64 0,.bool false,.sl .any 1 (rowsU l)]):=St.ov n2 (St.ov n1 k1);have fb:((S1.upd bs (.obj 242 [.sl .any 1 (rowsU l)])).upd l0 (.lp R .ready)) bs=some (.obj 242 [.sl .any 1 (rowsU l)]):=St.ov nl (St.upd_same _ _ _);have fl:((S1.upd bs (.obj 242 [.sl .any 1 (rowsU l)])).upd l0 (.lp R .ready)) l0=some (.lp R .ready):=St.upd_same _ _ _;have le1:St.le S1 (((S1.upd bs (.obj 242 [.sl .any 1 (rowsU l)])).upd l0 (.lp R .ready)).del l0):=by
   have nb:S1 bs=none:=by
    cases e:S1 bs with
    | none=>rfl
    | some o=>rw[h3.1 _ _ e] at hbs;cases hbs
   have n0:S1 l0=none:=by
    cases e:S1 l0 with
    | none=>rfl
    | some o=>rw[St.ov (St.ne_of nb e) (h3.1 _ _ e)] at hl0;cases hl0
   exact St.le_del' (St.le_upd (St.le_upd (St.le_refl _) nb _) n0 _) n0
  generalize ((S1.upd bs (.obj 242 [.sl .any 1 (rowsU l)])).upd l0 (.lp R .ready))=S0 at *;refine(Backward1_ok l (by omega) bs l0 _ (fun k S'=>BldW S0 S' b3 (textK l [] k)) _ h5 (fun k S' _ h=>h.1 _ _ fb) (fun k S' hk2 hI K hK=>?_)).mono ?_
  ·refine⟨⟨hI.1 _ _ fl,rfl⟩,?_⟩;conv=>whnf
   refine⟨hI.1 _ _ fl,?_⟩;have hI1:=hI.over (.inr ⟨_,fl⟩) (.lp R .busy);have f1':(S0.upd l0 (.lp R .busy)) b1=some (.obj 244 [.int .i64 0,.bool false,.sl .any 1 (rowsU l)]):=St.ov n2 f1;have fl':=St.upd_same S0 l0 (.lp R .busy);have hS0:(S0.upd l0 (.lp R .busy)).upd l0 (.lp R .ready)=S0:=by rw[St.upd_upd];exact St.upd_id fl
   have edd:l.getD (l.length-1-k) 0=l[l.length-1-k]:=by simp only[List.getD];rw[List.getElem?_eq_getElem (by omega)];rfl
   have hdd:=hd _ (List.getElem_mem (show l.length-1-k<l.length by omega))
   have htl:=textK_len l [] hd (by simp) k
   have hnx:textK l [] (k+1)=textK l [] k++((if k=0 then [] else Lib.repeatL [48] (9-(Lib.itoa ((l[l.length-1-k]:Nat):Int)).length))++Lib.itoa ((l[l.length-1-k]:Nat):Int)):=by rw[← edd];rfl
   generalize l[l.length-1-k]=d at *;generalize textK l [] k=tk at *;rw[hnx] at hK;have h9:=itoa_len9 hdd;have wd:IntKind.i64.wrap (d:Int)=(d:Int):=wrap_i64 (by omega) (by omega)
   conv=>whnf
   rw[wd];refine(itoa_ok hG (d:Int) (by omega) (by omega) _).mono ?_
   rintro o S4 ⟨rfl,rfl⟩;conv=>whnf
   refine⟨_,_,hI1.1 _ _ f1',?_⟩;conv=>whnf
   intro _;conv=>whnf
   have wl:IntKind.i64.wrap (((rowsU l).length:Int)-1)=(l.length:Int)-1:=by rw[rowsU_len,wrap_i64 (by omega) (by omega)]
   rw[wl];refine split_of (fun hlt=>?_) (fun hlt=>?_)
   ·have hk0:k≠0:=by have:=of_decide_eq_true hlt;omega
    rw[if_neg hk0] at hK;conv=>whnf
    have e9:IntKind.i64.wrap (9-((itoaS (d:Int)).size:Int))=((9-(Lib.itoa (d:Int)).length:Nat):Int):=by rw[itoaS_size,wrap_i64 (by omega) (by omega)];omega
    rw[e9];refine(repeat_ok _ (9-(Lib.itoa (d:Int)).length) (by omega) (by show 1*_≤_;omega) _).mono ?_
    rintro o S4 ⟨rfl,rfl⟩;conv=>whnf
    have er:(repS ⟨#[48]⟩ (9-(Lib.itoa (d:Int)).length)).data.toList=Lib.repeatL [48] (9-(Lib.itoa (d:Int)).length):=by simp[repS]
    have erl:(repS ⟨#[48]⟩ (9-(Lib.itoa (d:Int)).length)).size=9-(Lib.itoa (d:Int)).length:=by
     show(repS ⟨#[48]⟩ (9-(Lib.itoa (d:Int)).length)).data.toList.length=_
     rw[er,Lib.repeatL_length];simp
    refine(hI1.write (repS ⟨#[48]⟩ (9-(Lib.itoa (d:Int)).length)) (by rw[erl];omega)).mono ?_
    rintro o S4 ⟨rfl,hI2⟩;rw[er] at hI2;conv=>whnf
    refine(hI2.write (itoaS (d:Int)) (by rw[List.length_append,Lib.repeatL_length,itoaS_size];simp;omega)).mono ?_
    rintro o S5 ⟨rfl,hI3⟩;rw[itoaS_list,List.append_assoc] at hI3;conv=>whnf
    refine⟨hI3.1 _ _ fl',?_⟩;conv=>whnf
    have hI4:=hI3.over (.inr ⟨_,fl'⟩) (.lp R .ready)
    rw[hS0] at hI4;exact hK _ hI4
   ·have hk0:k=0:=by have:=of_decide_eq_false hlt;omega
    rw[if_pos hk0,List.nil_append] at hK;conv=>whnf
    refine(hI1.write (itoaS (d:Int)) (by rw[itoaS_size];omega)).mono ?_
    rintro o S5 ⟨rfl,hI3⟩;rw[itoaS_list] at hI3;conv=>whnf
    refine⟨hI3.1 _ _ fl',?_⟩;conv=>whnf
    have hI4:=hI3.over (.inr ⟨_,fl'⟩) (.lp R .ready)
    rw[hS0] at hI4;exact hK _ hI4
  ·rintro o S' ⟨⟨x,rfl⟩,h6⟩;refine⟨⟨_,rfl⟩,.ready,h6.1 _ _ fl,?_⟩;have h7:=h6.del ⟨_,fl⟩;conv=>whnf
   refine hK _ _ ?_;clear hK hQ K;conv=>whnf
   refine h7.string.mono ?_;rintro o S'' ⟨rfl,h8⟩;conv=>whnf
   exact⟨_,_,⟨rfl,rfl⟩,St.le_trans hle01 (St.le_trans le1 h8),AV.leS_refl _ _ _⟩
def GErr(G:Nat→Option (List AV))(g:Nat):Prop:=G g=some [.nili]∨∃ te,G g=some [.ifc te .top]
theorem glob_err{w:World}{S:St}(hg:Good (C G) w S){g:Nat}(h:GErr G g):∃ ev,w.cell? ⟨g,0,none⟩=some ev∧(ev=.nilIface∨∃ te pe,ev=.iface te pe):=by
 rcases h with h | ⟨te,h⟩
 ·obtain⟨_,_,h3,_⟩:=hg.2 g _ h;simp only[RelAt] at h3;obtain⟨⟨v,⟨_,h4,_⟩,h5⟩,_⟩:=h3;simp only[Rel] at h5;exact⟨v,h4,.inl h5⟩
 ·obtain⟨_,_,h3,_⟩:=hg.2 g _ h;simp only[RelAt] at h3;obtain⟨⟨v,⟨_,h4,_⟩,h5⟩,_⟩:=h3;simp only[Rel] at h5;obtain⟨y,h5,_⟩:=h5;exact⟨v,h4,.inr ⟨te,y,h5⟩⟩
structure GS (G:Nat→Option (List AV)):Prop where
 tab:G10 G
 esyn:GErr G 5
 eran:GErr G 6
def atoiAV(s:ByteArray):AV:=match Lib.atoiAll s.data.toList with
 | .ok v=>.tu [.int .i64 v,.nili]
 | .range=>.tu [.int .i64 (Lib.atoiSat s.data.toList),.ifc 275 .top]
 | _=>.tu [.int .i64 0,.ifc 275 .top]
theorem atoi_ok(hG:GS G)(s:ByteArray)(hl:s.size≤281474976710656)(S:St):Triple P (C G) 176 [.str s] S fun o S'=>o=.ret (atoiAV s)∧S'=S:=by
 refine Triple.of_calls (x:=atoiAV s) Tryz.func176 rfl (by decide +kernel) (fun w vs hg hr=>?_) ⟨rfl,rfl⟩
 obtain⟨v,hv,r1⟩:=RelL.one hr;simp only[Rel] at r1;subst r1;rw[show vs=#[.string s] from arr_of_list hv];unfold atoiAV
 cases h:Lib.atoiAll s.data.toList with
 | ok u=>
   refine(Tryz.strconv_Atoi_ok s (by omega) u h w).mono fun e w' he=>?_
   obtain⟨rfl,hw⟩:=he;refine⟨_,rfl,by simp only[Rel,RelL];exact⟨_,rfl,_,_,rfl,rfl,_,_,rfl,rfl,rfl⟩,?_⟩
   rcases hw with rfl | ⟨t,rfl⟩
   ·exact Below.refl _ _
   ·exact Lib.bytesWorld_below w 5 t
 | range=>
   obtain⟨ev,h1,h2⟩:=glob_err hg hG.eran;refine(Tryz.strconv_Atoi_range s hl h ev w h1 h2).mono fun e w' he=>?_
   obtain⟨N,rfl,_,_,hb⟩:=he;exact⟨_,rfl,by simp only[Rel,RelL];exact⟨_,rfl,_,_,rfl,rfl,_,_,rfl,⟨_,rfl,trivial⟩,rfl⟩,hb⟩
 | _=>
   obtain⟨ev,h1,h2⟩:=glob_err hg hG.esyn;refine(Tryz.strconv_Atoi_bad s hl (fun v hv=>by rw[h] at hv;cases hv) (fun hv=>by rw[h] at hv;cases hv) ev w h1 h2).mono fun e w' he=>?_
   obtain⟨N,rfl,_,_,hb⟩:=he;exact⟨_,rfl,by simp only[Rel,RelL];exact⟨_,rfl,_,_,rfl,rfl,_,_,rfl,⟨_,rfl,trivial⟩,rfl⟩,hb⟩
def smallV(z:Int):Int×Bool:=
 if near z then (z,true) else if 3<(limbs z.natAbs).length then (0,false) else
 match Lib.atoiAll (textF (decide (z<0)) (limbs z.natAbs)) with
 | .ok v=>(v,true)
 | _=>(0,false)
theorem Small_ok(hG:GS G)(z:Int)(S:St):Triple P (C G) 167 [bigAV z] S fun o S'=>o=.ret (.tu [.int .i64 (smallV z).1,.bool (smallV z).2])∧S'=S:=by
 unfold smallV
 by_cases h:near z
 ·rw[bigAV_near h,if_pos h];refine triple_of_awp (hT G) hm Tryz.func167 rfl (by decide +kernel) rfl (by decide +kernel) (by show 1≤_;decide +kernel) rfl ?_
  conv=>whnf
  intro b hb;conv=>whnf
  refine⟨_,_,St.upd_same _ _ _,?_⟩;conv=>whnf
  refine⟨_,_,St.upd_same _ _ _,?_⟩;conv=>whnf
  exact⟨_,_,⟨rfl,rfl⟩,St.le_upd' (St.le_refl _) hb _,AV.leS_refl _ _ _⟩
 ·have hp:=far_pos h
  have hl0:=limbs_ne (n:=z.natAbs) (by omega)
  have ht:=fun hl S=>Text_far (G:=G) hG.tab (decide (z<0)) (limbs z.natAbs) hl0 (limbs_lt _) hl S
  have hlen:∀ k,(limbs z.natAbs).length=k→(textF (decide (z<0)) (limbs z.natAbs)).length≤1+18*k:=fun k hk=>by
   subst hk;exact textK_len _ _ (limbs_lt _) (by split<;>simp) _
  rw[bigAV_far h,if_neg h];generalize limbs z.natAbs=l at *;generalize decide (z<0)=neg at *;refine triple_of_awp (hT G) hm Tryz.func167 rfl (by decide +kernel) rfl (by decide +kernel) (by show 1≤_;decide +kernel) rfl ?_
  conv=>whnf
  intro b hb;conv=>whnf
  refine⟨_,_,St.upd_same _ _ _,?_⟩;conv=>whnf
  intro c hc;have hc:=hc (rowsU_ne hl0);subst hc;conv=>whnf
  refine⟨_,_,St.upd_same _ _ _,?_⟩;conv=>whnf
  intro _;conv=>whnf
  refine split_of (fun h3=>?_) (fun h3=>?_)
  ·have h3:3<l.length:=by have:=of_decide_eq_true h3;rw[rowsU_len] at this;omega
   rw[if_pos h3];conv=>whnf
   exact⟨_,_,⟨rfl,rfl⟩,St.le_upd' (St.le_refl _) hb _,AV.leS_refl _ _ _⟩
  ·have h3:¬ 3<l.length:=by have:=of_decide_eq_false h3;rw[rowsU_len] at this;omega
   rw[if_neg h3];have ht:=ht (by omega)
   have hlen:=hlen _ rfl
   generalize textF neg l=tx at *;conv=>whnf
   refine⟨_,_,St.upd_same _ _ _,?_⟩;conv=>whnf
   refine(ht _).mono ?_;rintro o S' ⟨rfl,rfl⟩;conv=>whnf
   have ha:=atoi_ok hG ⟨tx.toArray⟩ (by show tx.toArray.size≤_;simp;omega) (S.upd b (.obj 244 [.int .i64 0,.bool neg,.sl .any 1 (rowsU l)]))
   unfold atoiAV at ha;have el:(⟨tx.toArray⟩:ByteArray).data.toList=tx:=by simp
   rw[el] at ha;generalize Lib.atoiSat tx=sat at *
   cases hat:Lib.atoiAll tx with
   | ok v=>
     rw[hat] at ha;refine ha.mono ?_;rintro o S' ⟨rfl,rfl⟩;conv=>whnf
     exact⟨_,_,⟨rfl,rfl⟩,St.le_upd' (St.le_refl _) hb _,AV.leS_refl _ _ _⟩
   | range=>
     rw[hat] at ha;refine ha.mono ?_;rintro o S' ⟨rfl,rfl⟩;conv=>whnf
     exact⟨_,_,⟨rfl,rfl⟩,St.le_upd' (St.le_refl _) hb _,AV.leS_refl _ _ _⟩
   | _=>
     rw[hat] at ha;refine ha.mono ?_;rintro o S' ⟨rfl,rfl⟩;conv=>whnf
     exact⟨_,_,⟨rfl,rfl⟩,St.le_upd' (St.le_refl _) hb _,AV.leS_refl _ _ _⟩
theorem trimPrefix_len(l p:List UInt8):(Lib.trimPrefix l p).length≤l.length:=by
 unfold Lib.trimPrefix
 split<;>simp
theorem okZ_parse(l:List UInt8){k:Nat}(hl:l.length≤k):okZ ((parseI l).getD 0) k:=by
 unfold okZ;refine limbs_len _ _ ?_;have h1:((parseI l).getD 0).natAbs<10 ^ l.length:=by
  unfold parseI;simp only[]
  split
  ·exact Nat.pow_pos (by decide)
  ·rename_i h
   have hd:(Lib.trimPrefix l [45]).all digitB=true:=by
    cases hh:(Lib.trimPrefix l [45]).all digitB with
    | true=>rfl
    | false=>exact absurd (Or.inr (Or.inr hh)) h
   have:=decV_lt _ hd
   have h2:=Nat.pow_le_pow_right (n:=10) (by decide) (trimPrefix_len l [45])
   simp only[Option.getD_some]
   split<;>simp<;>omega
 refine Nat.lt_of_lt_of_le h1 ?_;rw[show(1000000000:Nat)=10 ^ 9 by decide,← Nat.pow_mul]
 exact Nat.pow_le_pow_right (by decide) (by omega)
def isNumV(l:List UInt8)(low:Int):Bool:=(parseI l).isSome && (decide (low<0) || decide (low≤(parseI l).getD 0))
theorem isNumber_ok(s:ByteArray)(hs:s.size≤9000000)(low:Int)(h0:-9223372036854775808≤low)(h1:low≤9223372036854775807)(S:St) :
 Triple P (C G) 153 [.str s,.int .i64 low] S fun o S'=>o=.ret (.bool (isNumV s.data.toList low))∧S'=S:=by
 have hp:=fun S=>Parse_ok (G:=G) s (by omega) S
 have hsl:s.data.toList.length=s.size:=by rw[Array.length_toList];rfl
 have hz:=okZ_parse s.data.toList (k:=9000000) (by omega)
 have hz2:okZ low 9000000:=by
  unfold okZ;refine Nat.le_trans (limbs_len 3 _ (by omega)) (by decide)
 have ho:=fun S=>Of_ok (G:=G) low h0 h1 S
 unfold isNumV;generalize hpi:parseI s.data.toList=pz at *;have hcmp:=fun S=>Cmp_ok (G:=G) (pz.getD 0) low hz hz2 S
 have hsg:decide (bSign (pz.getD 0-low) ≥ 0)=decide (low≤pz.getD 0):=by
  unfold bSign
  by_cases h:pz.getD 0-low<0
  ·simp[h];omega
  ·rw[if_neg h]
   by_cases h':pz.getD 0-low=0
   ·simp[h'];omega
   ·rw[if_neg h'];simp;omega
 generalize hzz:pz.getD 0=z at *;rw[← hsg];clear hsg;generalize pz.isSome=f at *
 by_cases hx:near z
 ·rw[bigAV_near hx] at *
  by_cases hl:near low
  ·rw[bigAV_near hl] at *;refine triple_of_awp (hT G) hm Tryz.func153 rfl (by decide +kernel) rfl (by decide +kernel) (by show 2≤_;decide +kernel) rfl ?_
   conv=>whnf
   refine(hp _).mono ?_;rintro o S' ⟨rfl,rfl⟩;conv=>whnf
   intro b5 hb5;conv=>whnf
   refine⟨_,_,St.upd_same _ _ _,?_⟩;conv=>whnf
   refine⟨[8,9],(.free 0 (.free 1 (.free 2 (.free 3 (.free 4 (.free 5 (.free 6 (.free 7 (.free 8 (.free 9 (.free 10 (.free 11 (.free 12 (.free 13 .done)))))))))))))),_,by decide +kernel,?_,fun _ _ h=>⟨_,.inl rfl,h⟩⟩
   cases f with
   | false=>
     conv=>whnf
     exact⟨_,_,⟨rfl,rfl⟩,by rw[St.upd_upd];exact St.le_upd' (St.le_refl _) hb5 _,AV.leS_refl _ _ _⟩
   | true=>
     conv=>whnf
     cases hd:decide (low<0) with
     | true=>
       rw[hd] at *;conv=>whnf
       exact⟨_,_,⟨rfl,rfl⟩,by rw[St.upd_upd];exact St.le_upd' (St.le_refl _) hb5 _,AV.leS_refl _ _ _⟩
     | false=>
       rw[hd] at *;conv=>whnf
       refine⟨_,_,St.upd_same _ _ _,?_⟩;conv=>whnf
       refine⟨nearAV low,(ho _).mono ?_,?_⟩
       ·rintro o S' ⟨rfl,rfl⟩;exact⟨rfl,rfl⟩
       conv=>whnf
       refine⟨.int .i64 (bSign (z-low)),(hcmp _).mono ?_,?_⟩
       ·rintro o S' ⟨rfl,rfl⟩;exact⟨rfl,rfl⟩
       conv=>whnf
       exact⟨_,_,⟨rfl,rfl⟩,by rw[St.upd_upd];exact St.le_upd' (St.le_refl _) hb5 _,AV.leS_refl _ _ _⟩
  ·rw[bigAV_far hl] at *;refine triple_of_awp (hT G) hm Tryz.func153 rfl (by decide +kernel) rfl (by decide +kernel) (by show 2≤_;decide +kernel) rfl ?_
   conv=>whnf
   refine(hp _).mono ?_;rintro o S' ⟨rfl,rfl⟩;conv=>whnf
   intro b5 hb5;conv=>whnf
   refine⟨_,_,St.upd_same _ _ _,?_⟩;conv=>whnf
   refine⟨[8,9],(.free 0 (.free 1 (.free 2 (.free 3 (.free 4 (.free 5 (.free 6 (.free 7 (.free 8 (.free 9 (.free 10 (.free 11 (.free 12 (.free 13 .done)))))))))))))),_,by decide +kernel,?_,fun _ _ h=>⟨_,.inl rfl,h⟩⟩
   cases f with
   | false=>
     conv=>whnf
     exact⟨_,_,⟨rfl,rfl⟩,by rw[St.upd_upd];exact St.le_upd' (St.le_refl _) hb5 _,AV.leS_refl _ _ _⟩
   | true=>
     conv=>whnf
     cases hd:decide (low<0) with
     | true=>
       rw[hd] at *;conv=>whnf
       exact⟨_,_,⟨rfl,rfl⟩,by rw[St.upd_upd];exact St.le_upd' (St.le_refl _) hb5 _,AV.leS_refl _ _ _⟩
     | false=>
       rw[hd] at *;conv=>whnf
       refine⟨_,_,St.upd_same _ _ _,?_⟩;conv=>whnf
       refine⟨farAV (decide (low<0)) (limbs low.natAbs),(ho _).mono ?_,?_⟩
       ·rintro o S' ⟨rfl,rfl⟩;exact⟨rfl,rfl⟩
       conv=>whnf
       refine⟨.int .i64 (bSign (z-low)),(hcmp _).mono ?_,?_⟩
       ·rintro o S' ⟨rfl,rfl⟩;exact⟨rfl,rfl⟩
       conv=>whnf
       exact⟨_,_,⟨rfl,rfl⟩,by rw[St.upd_upd];exact St.le_upd' (St.le_refl _) hb5 _,AV.leS_refl _ _ _⟩
 ·rw[bigAV_far hx] at *
  by_cases hl:near low
  ·rw[bigAV_near hl] at *;refine triple_of_awp (hT G) hm Tryz.func153 rfl (by decide +kernel) rfl (by decide +kernel) (by show 2≤_;decide +kernel) rfl ?_
   conv=>whnf
   refine(hp _).mono ?_;rintro o S' ⟨rfl,rfl⟩;conv=>whnf
   intro b5 hb5;conv=>whnf
   refine⟨_,_,St.upd_same _ _ _,?_⟩;conv=>whnf
   refine⟨[8,9],(.free 0 (.free 1 (.free 2 (.free 3 (.free 4 (.free 5 (.free 6 (.free 7 (.free 8 (.free 9 (.free 10 (.free 11 (.free 12 (.free 13 .done)))))))))))))),_,by decide +kernel,?_,fun _ _ h=>⟨_,.inl rfl,h⟩⟩
   cases f with
   | false=>
     conv=>whnf
     exact⟨_,_,⟨rfl,rfl⟩,by rw[St.upd_upd];exact St.le_upd' (St.le_refl _) hb5 _,AV.leS_refl _ _ _⟩
   | true=>
     conv=>whnf
     cases hd:decide (low<0) with
     | true=>
       rw[hd] at *;conv=>whnf
       exact⟨_,_,⟨rfl,rfl⟩,by rw[St.upd_upd];exact St.le_upd' (St.le_refl _) hb5 _,AV.leS_refl _ _ _⟩
     | false=>
       rw[hd] at *;conv=>whnf
       refine⟨_,_,St.upd_same _ _ _,?_⟩;conv=>whnf
       refine⟨nearAV low,(ho _).mono ?_,?_⟩
       ·rintro o S' ⟨rfl,rfl⟩;exact⟨rfl,rfl⟩
       conv=>whnf
       refine⟨.int .i64 (bSign (z-low)),(hcmp _).mono ?_,?_⟩
       ·rintro o S' ⟨rfl,rfl⟩;exact⟨rfl,rfl⟩
       conv=>whnf
       exact⟨_,_,⟨rfl,rfl⟩,by rw[St.upd_upd];exact St.le_upd' (St.le_refl _) hb5 _,AV.leS_refl _ _ _⟩
  ·rw[bigAV_far hl] at *;refine triple_of_awp (hT G) hm Tryz.func153 rfl (by decide +kernel) rfl (by decide +kernel) (by show 2≤_;decide +kernel) rfl ?_
   conv=>whnf
   refine(hp _).mono ?_;rintro o S' ⟨rfl,rfl⟩;conv=>whnf
   intro b5 hb5;conv=>whnf
   refine⟨_,_,St.upd_same _ _ _,?_⟩;conv=>whnf
   refine⟨[8,9],(.free 0 (.free 1 (.free 2 (.free 3 (.free 4 (.free 5 (.free 6 (.free 7 (.free 8 (.free 9 (.free 10 (.free 11 (.free 12 (.free 13 .done)))))))))))))),_,by decide +kernel,?_,fun _ _ h=>⟨_,.inl rfl,h⟩⟩
   cases f with
   | false=>
     conv=>whnf
     exact⟨_,_,⟨rfl,rfl⟩,by rw[St.upd_upd];exact St.le_upd' (St.le_refl _) hb5 _,AV.leS_refl _ _ _⟩
   | true=>
     conv=>whnf
     cases hd:decide (low<0) with
     | true=>
       rw[hd] at *;conv=>whnf
       exact⟨_,_,⟨rfl,rfl⟩,by rw[St.upd_upd];exact St.le_upd' (St.le_refl _) hb5 _,AV.leS_refl _ _ _⟩
     | false=>
       rw[hd] at *;conv=>whnf
       refine⟨_,_,St.upd_same _ _ _,?_⟩;conv=>whnf
       refine⟨farAV (decide (low<0)) (limbs low.natAbs),(ho _).mono ?_,?_⟩
       ·rintro o S' ⟨rfl,rfl⟩;exact⟨rfl,rfl⟩
       conv=>whnf
       refine⟨.int .i64 (bSign (z-low)),(hcmp _).mono ?_,?_⟩
       ·rintro o S' ⟨rfl,rfl⟩;exact⟨rfl,rfl⟩
       conv=>whnf
       exact⟨_,_,⟨rfl,rfl⟩,by rw[St.upd_upd];exact St.le_upd' (St.le_refl _) hb5 _,AV.leS_refl _ _ _⟩
def litV(l:List UInt8):Int:=
 let s1:=Lib.trimPrefix l [126]
 let s2:=Lib.trimPrefix s1 [120]
 let z:=(parseI s2).getD 0
 if Lib.hasPrefix s1 [120]=false∨(parseI s2).isSome=false∨(smallV z).2=false∨(smallV z).1<1∨1073741824<(smallV z).1 then 0
 else if Lib.hasPrefix l [126] then -(smallV z).1 else (smallV z).1
theorem cutPrefix_list(l p:List UInt8)(S:St):Triple P (C G) 166 [.str ⟨l.toArray⟩,.str ⟨p.toArray⟩] S fun o S'=>
 o=.ret (.tu [.str ⟨(Lib.trimPrefix l p).toArray⟩,.bool (Lib.hasPrefix l p)])∧S'=S:=by
 have h:=CutPrefix_ok (G:=G) ⟨l.toArray⟩ ⟨p.toArray⟩ S
 simpa only[List.toList_toArray] using h
theorem parse_list(l:List UInt8)(hl:l.length≤1000000000)(S:St):Triple P (C G) 163 [.str ⟨l.toArray⟩] S fun o S'=>
 o=.ret (.tu [bigAV ((parseI l).getD 0),.int .i64 (if (parseI l).isSome then 0 else 10)])∧S'=S:=by
 have h:=Parse_ok (G:=G) ⟨l.toArray⟩ (by show Array.size _≤_;simpa using hl) S
 simpa only[List.toList_toArray] using h
theorem literal_list(hG:GS G)(l:List UInt8)(hs:l.length≤9000000)(S:St):Triple P (C G) 154 [.str ⟨l.toArray⟩] S fun o S'=>o=.ret (.int .i64 (litV l))∧S'=S:=by
 have h1:=trimPrefix_len l [126]
 have h2:=trimPrefix_len (Lib.trimPrefix l [126]) [120]
 have hp:=fun S=>parse_list (G:=G) (Lib.trimPrefix (Lib.trimPrefix l [126]) [120]) (by omega) S
 have hsm:=fun S=>Small_ok hG ((parseI (Lib.trimPrefix (Lib.trimPrefix l [126]) [120])).getD 0) S
 have c1:=fun S=>cutPrefix_list (G:=G) l [126] S
 have c2:=fun S=>cutPrefix_list (G:=G) (Lib.trimPrefix l [126]) [120] S
 unfold litV;simp only[];generalize hneg:Lib.hasPrefix l [126]=neg at *;generalize hokx:Lib.hasPrefix (Lib.trimPrefix l [126]) [120]=okx at *;generalize hs1:Lib.trimPrefix l [126]=s1 at *;generalize hs2:Lib.trimPrefix s1 [120]=s2 at *;generalize (parseI s2).isSome=f at *;generalize (parseI s2).getD 0=z at *;generalize (smallV z).1=v at *;generalize (smallV z).2=sm at *
 by_cases hz:near z
 ·rw[bigAV_near hz] at *;refine triple_of_awp (hT G) hm Tryz.func154 rfl (by decide +kernel) rfl (by decide +kernel) (by show 1≤_;decide +kernel) rfl ?_
  refine awp_seq2 fun K hK hQ=>?_
  conv=>whnf
  refine hK _ _ ?_;clear hK hQ K;refine awp_seq2 fun K hK hQ=>?_
  conv=>whnf
  refine(c1 _).mono ?_;rintro o S' ⟨rfl,rfl⟩;conv=>whnf
  refine hK _ _ ?_;clear hK hQ K;refine awp_seq2 fun K hK hQ=>?_
  conv=>whnf
  refine(c2 _).mono ?_;rintro o S' ⟨rfl,rfl⟩;conv=>whnf
  refine hK _ _ ?_;clear hK hQ K;refine awp_seq2 fun K hK hQ=>?_
  conv=>whnf
  refine(hp _).mono ?_;rintro o S' ⟨rfl,rfl⟩;conv=>whnf
  intro b6 hb6;conv=>whnf
  refine⟨_,_,St.upd_same _ _ _,?_⟩;conv=>whnf
  refine hK _ _ ?_;clear hK hQ K;refine awp_seq2 fun K hK hQ=>?_
  conv=>whnf
  refine⟨_,_,St.upd_same _ _ _,?_⟩;conv=>whnf
  refine(hsm _).mono ?_;rintro o S' ⟨rfl,rfl⟩;conv=>whnf
  refine hK _ _ ?_;clear hK hQ K;have hle:St.le S' ((S'.upd b6 (.obj 244 [.int .i64 0,.bool false,.nils])).upd b6 (.obj 244 [.int .i64 z,.bool false,.nils])):=by rw[St.upd_upd];exact St.le_upd' (St.le_refl _) hb6 _
  cases okx with
  | false=>
     conv=>whnf
     exact⟨_,_,⟨by rw[if_pos (.inl rfl)],rfl⟩,hle,AV.leS_refl _ _ _⟩
  | true=>
    cases f with
    | false=>
       conv=>whnf
       exact⟨_,_,⟨by rw[if_pos (.inr (.inl rfl))],rfl⟩,hle,AV.leS_refl _ _ _⟩
    | true=>
      cases sm with
      | false=>
         conv=>whnf
         exact⟨_,_,⟨by rw[if_pos (.inr (.inr (.inl rfl)))],rfl⟩,hle,AV.leS_refl _ _ _⟩
      | true=>
        conv=>whnf
        refine split_of (fun h1=>?_) (fun h1=>?_)
        ·conv=>whnf
         have h1:=of_decide_eq_true h1
         exact⟨_,_,⟨by rw[if_pos (.inr (.inr (.inr (.inl h1))))],rfl⟩,hle,AV.leS_refl _ _ _⟩
        ·have h1:=of_decide_eq_false h1
         conv=>whnf
         refine split_of (fun h2=>?_) (fun h2=>?_)
         ·have h2:=of_decide_eq_true h2
          conv=>whnf
          exact⟨_,_,⟨by rw[if_pos (.inr (.inr (.inr (.inr h2))))],rfl⟩,hle,AV.leS_refl _ _ _⟩
         ·have h2:=of_decide_eq_false h2
          have hn:¬ (true=false∨true=false∨true=false∨v<1∨1073741824<v):=by simp;omega
          cases neg with
          | true=>
             conv=>whnf
             exact⟨_,_,⟨by rw[if_neg hn,if_pos rfl,wrap_i64 (by omega) (by omega)];simp,rfl⟩,hle,AV.leS_refl _ _ _⟩
          | false=>
             conv=>whnf
             exact⟨_,_,⟨by rw[if_neg hn,if_neg (by simp)],rfl⟩,hle,AV.leS_refl _ _ _⟩
 ·rw[bigAV_far hz] at *;refine triple_of_awp (hT G) hm Tryz.func154 rfl (by decide +kernel) rfl (by decide +kernel) (by show 1≤_;decide +kernel) rfl ?_
  refine awp_seq2 fun K hK hQ=>?_
  conv=>whnf
  refine hK _ _ ?_;clear hK hQ K;refine awp_seq2 fun K hK hQ=>?_
  conv=>whnf
  refine(c1 _).mono ?_;rintro o S' ⟨rfl,rfl⟩;conv=>whnf
  refine hK _ _ ?_;clear hK hQ K;refine awp_seq2 fun K hK hQ=>?_
  conv=>whnf
  refine(c2 _).mono ?_;rintro o S' ⟨rfl,rfl⟩;conv=>whnf
  refine hK _ _ ?_;clear hK hQ K;refine awp_seq2 fun K hK hQ=>?_
  conv=>whnf
  refine(hp _).mono ?_;rintro o S' ⟨rfl,rfl⟩;conv=>whnf
  intro b6 hb6;conv=>whnf
  refine⟨_,_,St.upd_same _ _ _,?_⟩;conv=>whnf
  refine hK _ _ ?_;clear hK hQ K;refine awp_seq2 fun K hK hQ=>?_
  conv=>whnf
  refine⟨_,_,St.upd_same _ _ _,?_⟩;conv=>whnf
  refine(hsm _).mono ?_;rintro o S' ⟨rfl,rfl⟩;conv=>whnf
  refine hK _ _ ?_;clear hK hQ K;have hle:St.le S' ((S'.upd b6 (.obj 244 [.int .i64 0,.bool false,.nils])).upd b6 (.obj 244 [.int .i64 0,.bool (decide (z<0)),.sl .any 1 (rowsU (limbs z.natAbs))])):=by rw[St.upd_upd];exact St.le_upd' (St.le_refl _) hb6 _
  cases okx with
  | false=>
     conv=>whnf
     exact⟨_,_,⟨by rw[if_pos (.inl rfl)],rfl⟩,hle,AV.leS_refl _ _ _⟩
  | true=>
    cases f with
    | false=>
       conv=>whnf
       exact⟨_,_,⟨by rw[if_pos (.inr (.inl rfl))],rfl⟩,hle,AV.leS_refl _ _ _⟩
    | true=>
      cases sm with
      | false=>
         conv=>whnf
         exact⟨_,_,⟨by rw[if_pos (.inr (.inr (.inl rfl)))],rfl⟩,hle,AV.leS_refl _ _ _⟩
      | true=>
        conv=>whnf
        refine split_of (fun h1=>?_) (fun h1=>?_)
        ·conv=>whnf
         have h1:=of_decide_eq_true h1
         exact⟨_,_,⟨by rw[if_pos (.inr (.inr (.inr (.inl h1))))],rfl⟩,hle,AV.leS_refl _ _ _⟩
        ·have h1:=of_decide_eq_false h1
         conv=>whnf
         refine split_of (fun h2=>?_) (fun h2=>?_)
         ·have h2:=of_decide_eq_true h2
          conv=>whnf
          exact⟨_,_,⟨by rw[if_pos (.inr (.inr (.inr (.inr h2))))],rfl⟩,hle,AV.leS_refl _ _ _⟩
         ·have h2:=of_decide_eq_false h2
          have hn:¬ (true=false∨true=false∨true=false∨v<1∨1073741824<v):=by simp;omega
          cases neg with
          | true=>
             conv=>whnf
             exact⟨_,_,⟨by rw[if_neg hn,if_pos rfl,wrap_i64 (by omega) (by omega)];simp,rfl⟩,hle,AV.leS_refl _ _ _⟩
          | false=>
             conv=>whnf
             exact⟨_,_,⟨by rw[if_neg hn,if_neg (by simp)],rfl⟩,hle,AV.leS_refl _ _ _⟩
theorem literal_ok(hG:GS G)(s:ByteArray)(hs:s.size≤9000000)(S:St):Triple P (C G) 154 [.str s] S fun o S'=>o=.ret (.int .i64 (litV s.data.toList))∧S'=S:=by
 have hsl:s.data.toList.length=s.size:=by rw[Array.length_toList];rfl
 have h:=literal_list hG s.data.toList (by omega) S
 rwa [Array.toArray_toList] at h
def blankR(x:Nat):Bool:=decide (x=32) || decide (x=9)
theorem words1_ok(x:Nat)(hx:x≤1114111):TripleE P (C G) 111 [.int .i32 (x:Int)] St.emp fun o S'=>o=.ret (.bool (blankR x))∧S'=St.emp:=by
 refine tripleE_of_awp (hT G) hm Tryz.func111 rfl (by decide +kernel) rfl (by decide +kernel) (by show 1≤_;decide +kernel) rfl ?_
 conv=>whnf
 refine split_of (fun h=>?_) (fun h=>?_)
 ·have h:x=32:=by have:=eq_of_beq h;omega
  conv=>whnf
  exact⟨_,_,⟨rfl,rfl⟩,St.le_refl _,by simp only[blankR,h,decide_true,Bool.true_or];exact AV.leS_refl _ _ _⟩
 ·have h:¬ x=32:=by intro e;subst e;simp at h
  conv=>whnf
  refine⟨_,_,⟨rfl,rfl⟩,St.le_refl _,?_⟩;have e:((x:Int) == 9)=blankR x:=by
   by_cases h2:x=9
   ·subst h2;rfl
   ·simp only[blankR,h,h2,decide_false,Bool.or_self];exact beq_false_of_ne (by omega)
  rw[e];exact AV.leS_refl _ _ _
theorem spans_len(p:Nat→Bool)(s:ByteArray):∀ (f pos:Nat) (st:Option Nat) (acc:List (Nat×Nat)),(Lib.spansFromP p s f pos st acc).1.length≤acc.length+f
 | 0,_,_,acc=>by simp[Lib.spansFromP]
 | f+1,pos,st,acc=>by
   unfold Lib.spansFromP
   split
   ·split
    ·cases st with
     | none=>exact Nat.le_trans (spans_len p s f _ _ _) (by omega)
     | some a=>exact Nat.le_trans (spans_len p s f _ _ _) (by simp;omega)
    ·cases st with
     | none=>exact Nat.le_trans (spans_len p s f _ _ _) (by omega)
     | some a=>exact Nat.le_trans (spans_len p s f _ _ _) (by omega)
   ·show acc.length≤_;omega
def wordsL(s:ByteArray):List ByteArray:=Lib.goFieldsP blankR s
theorem wordsL_len(s:ByteArray):(wordsL s).length≤s.size+1:=by
 unfold wordsL Lib.goFieldsP Lib.spansOfP;rw[List.length_map];have:=spans_len blankR s s.size 0 none [];generalize Lib.spansFromP blankR s s.size 0 none []=r at *;obtain⟨acc,st⟩:=r;unfold Lib.closeSpans
 cases st<;>simp at*<;> omega
theorem wordsL_size(s:ByteArray):∀ x∈wordsL s,x.size≤s.size:=by
 intro x hx;unfold wordsL Lib.goFieldsP at hx;obtain⟨y,_,rfl⟩:=List.mem_map.1 hx;rw[ByteArray.size_extract];omega
theorem words_ok(s:ByteArray)(hs:s.size≤4294967296)(S:St):Triple P (C G) 91 [.str s] S fun o S'=>o=.ret (.sl .full 1 (rowsS (wordsL s)))∧S'=S:=by
 have hf:Triple P (C G) 110 [.str s,.fn (.func 111) [] []] S fun o S'=>o=.ret (.sl .full 1 (rowsS (wordsL s)))∧S'=S:=by
  refine Triple.of_calls (x:=.sl .full 1 (rowsS (wordsL s))) Tryz.func110 rfl (by decide +kernel) (fun w vs hg hr=>?_) ⟨rfl,rfl⟩
  obtain⟨u,v,hv,r1,r2⟩:=RelL.two hr;simp only[Rel] at r1 r2;obtain⟨a1,a2,rfl,q1,q2⟩:=r2;simp only[RelL] at q1 q2;have e1:a1=#[]:=by simpa using q1
  have e2:a2=#[]:=by simpa using q2
  subst r1 e1 e2;rw[show vs=#[.string s,.func (.func 111) #[] #[]] from arr_of_list hv];refine(Tryz.strings_FieldsFunc_grows 111 #[] (fun vs w=>(words1_ok (G:=G) 0 (by omega)).enter vs w) blankR s w hs (predGrows hg words1_ok)).mono fun e w' he=>?_
  obtain⟨A,rfl,hA,hown,hb⟩:=he;refine⟨_,rfl,?_,hb⟩;obtain⟨hxl,hz | ⟨g,cap,cur,hv',hbg,hg',hnc,hcm,hcs,htk⟩⟩:=hown
  ·exact absurd hz.1 (by simp)
  ·simp only[Value.slice.injEq,Option.some.injEq,Addr.mk.injEq] at hv';obtain⟨⟨rfl,_⟩,_,rfl⟩:=hv';simp only[Rel];refine .inr ⟨A,0,(wordsL s).length,by rw[rowsS_len];rfl,by rw[rowsS_len];exact Nat.le_refl _,hcm,by rw[rowsS_len];rfl,?_⟩
   refine RelRows.of_cells (rowsS_one _) (RelL_strs _ _ _) (fun i v hv=>?_) (fun u hu=>?_) (fun i hi=>?_)
   ·have:=cell_of_row _ _ i _ _ (0,0) hg'
    rw[Nat.zero_add];refine this.trans ?_;have h2:cur.toList.take ((wordsL s).length*1)=(wordsL s).map Value.string:=htk;rw[← h2] at hv;rw[List.getElem?_take] at hv
    split at hv
    ·simpa using hv
    ·cases hv
   ·obtain⟨x,_,rfl⟩:=List.mem_map.1 hu;rfl
   ·have hgS:S A=none:=by
     cases e:S A with
     | none=>rfl
     | some o=>have:=hg.1.lt e;omega
    simp only[rdOf,hgS]
 refine triple_of_awp (hT G) hm Tryz.func91 rfl (by decide +kernel) rfl (by decide +kernel) (by show 1≤_;decide +kernel) rfl ?_
 conv=>whnf
 refine hf.mono ?_;rintro o S' ⟨rfl,rfl⟩;conv=>whnf
 exact⟨_,_,⟨rfl,rfl⟩,St.le_refl _,AV.leS_refl _ _ _⟩
def failAV(e:Int):AV:=.ifc 90 (.imm [.int .i64 2,.int .i64 0,.int .i64 e])
theorem fail_ok(e:Int)(S:St):Triple P (C G) 94 [.int .i64 e] S fun o S'=>o=.ret (failAV e)∧S'=S:=by
 refine triple_of_awp (hT G) hm Tryz.func94 rfl (by decide +kernel) rfl (by decide +kernel) (by show 1≤_;decide +kernel) rfl ?_
 conv=>whnf
 intro b hb;conv=>whnf
 exact⟨_,S,⟨rfl,rfl⟩,St.le_upd' (St.le_refl S) hb _,rfl,hb,_,_,St.upd_same _ _ _,rfl⟩
def rdr(l:List ByteArray)(cs:List AV):Own:=.obj 164 (.sl .any 1 (rowsS l)::cs)
def errAV(e:Int):AV:=if e=0 then .nili else failAV e
theorem rtake_ok(b:Nat)(l:List ByteArray)(cs:List AV)(S:St)(hS:S b=some (rdr l cs)) :
 Triple P (C G) 92 [.ref b 0] S fun o S'=>match l with
  | []=>o=.ret (.tu [.str ⟨#[]⟩,failAV 82])∧S'=S
  | w::l'=>o=.ret (.tu [.str w,.nili])∧S'=S.upd b (rdr l' cs):=by
 refine triple_of_awp (hT G) hm Tryz.func92 rfl (by decide +kernel) rfl (by decide +kernel) (by show 1≤_;decide +kernel) rfl ?_
 conv=>whnf
 refine⟨_,_,hS,?_⟩;conv=>whnf
 intro hlen
 cases l with
 | nil=>
   conv=>whnf
   refine(fail_ok 82 S).mono ?_;rintro o S' ⟨rfl,rfl⟩;conv=>whnf
   exact⟨_,S',⟨rfl,rfl⟩,St.le_refl _,AV.leS_refl _ _ _⟩
 | cons w l'=>
   conv=>whnf
   refine⟨_,_,hS,?_⟩;conv=>whnf
   refine⟨_,⟨by omega,rfl⟩,?_⟩
   conv=>whnf
   refine⟨_,_,hS,?_⟩;conv=>whnf
   refine⟨⟨by decide,by simp only[rowsS_len,List.length_cons];omega,by omega⟩,?_⟩
   conv=>whnf
   refine⟨_,_,hS,?_⟩;rw[forceL_eq];conv=>whnf
   exact⟨_,_,⟨rfl,rfl⟩,(by
    have e1:List.drop (Int.toNat 1) (List.take ((((rowsS (w::l')).length:Nat):Int).toNat) (rowsS (w::l')))=rowsS l':=by
     simp[rowsS]
     exact List.take_of_length_le (by simp)
    show St.le (S.upd b (rdr l' cs)) (S.upd b (.obj _ (.sl .any 1 _::cs)))
    rw[e1];exact St.le_refl _),AV.leS_refl _ _ _⟩
theorem rend_ok(b:Nat)(l:List ByteArray)(cs:List AV)(S:St)(hS:S b=some (rdr l cs)) :
 Triple P (C G) 95 [.ref b 0] S fun o S'=>o=.ret (if l=[] then .nili else failAV 80)∧S'=S:=by
 refine triple_of_awp (hT G) hm Tryz.func95 rfl (by decide +kernel) rfl (by decide +kernel) (by show 1≤_;decide +kernel) rfl ?_
 conv=>whnf
 refine⟨_,_,hS,?_⟩;conv=>whnf
 intro hlen
 cases l with
 | nil=>
   conv=>whnf
   exact⟨_,S,⟨rfl,rfl⟩,St.le_refl _,AV.leS_refl _ _ _⟩
 | cons w l'=>
   conv=>whnf
   refine split_of (fun h=>?_) (fun h=>by simp[rowsS] at h)
   conv=>whnf
   refine(fail_ok 80 S).mono ?_;rintro o S' ⟨rfl,rfl⟩;conv=>whnf
   exact⟨_,S',⟨rfl,rfl⟩,St.le_refl _,AV.leS_refl _ _ _⟩
theorem rnext_ok(b:Nat)(l:List ByteArray)(cs:List AV)(x:ByteArray)(S:St)(hS:S b=some (rdr l cs)) :
 Triple P (C G) 156 [.ref b 0,.str x] S fun o S'=>o=.ret (.bool (decide (l.head? = some x)))∧S'=S:=by
 refine triple_of_awp (hT G) hm Tryz.func156 rfl (by decide +kernel) rfl (by decide +kernel) (by show 2≤_;decide +kernel) rfl ?_
 conv=>whnf
 refine⟨_,_,hS,?_⟩;conv=>whnf
 intro hlen
 cases l with
 | nil=>
   conv=>whnf
   exact⟨_,S,⟨rfl,rfl⟩,St.le_refl _,AV.leS_refl _ _ _⟩
 | cons w l'=>
   conv=>whnf
   refine split_of (fun h=>?_) (fun h=>by simp[rowsS] at h)
   conv=>whnf
   refine⟨_,_,hS,?_⟩;conv=>whnf
   refine⟨_,⟨by omega,rfl⟩,?_⟩
   conv=>whnf
   exact⟨_,S,⟨rfl,rfl⟩,St.le_refl _,congrArg AV.bool (by simp)⟩
def exactG:List ByteArray→List ByteArray→List ByteArray×Int
 | l,[]=>(l,0)
 | [],_::_=>([],82)
 | w::l,x::xs=>if w=x then exactG l xs else (l,80)
set_option maxHeartbeats 1000000 in
theorem exactly_ok(b:Nat)(l:List ByteArray)(cs:List AV)(xs:List ByteArray)(hxs:xs.length≤1000000)(S:St)(hS:S b=some (rdr l cs)) :
 Triple P (C G) 138 [.ref b 0,.sl .any 1 (rowsS xs)] S fun o S'=>o=.ret (errAV (exactG l xs).2)∧S'=S.upd b (rdr (exactG l xs).1 cs):=by
 refine triple_of_awp (hT G) hm Tryz.func138 rfl (by decide +kernel) rfl (by decide +kernel) (by show 2≤_;decide +kernel) rfl ?_
 conv=>whnf
 intro hlen;conv=>whnf
 refine⟨⟨Nat×List ByteArray,fun(i,l')=>[(0,.ref b 0),(9,.sl .any 1 (rowsS xs)),(10,.int .i64 (xs.length:Int)),(11,.int .i64 (i:Int))],
  fun(i,l') S'=>S'=S.upd b (rdr l' cs)∧i≤xs.length∧exactG l' (xs.drop i)=exactG l xs,fun(i,_)=>xs.length-i⟩,
  ⟨(0,l),⟨rfl,⟨rfl,rfl⟩,congrArg (AV.int .i64) (by simp[rowsS]),rfl,trivial⟩,⟨_,St.leW_refl _,(St.upd_self hS).symm,by omega,rfl⟩⟩,?_⟩
 rintro⟨i,l'⟩ S₁ ⟨rfl,h2,h3⟩;have hS₁:(S.upd b (rdr l' cs)) b=some (rdr l' cs):=St.upd_same _ _ _;conv=>whnf
 refine split_of (fun hlt=>?_) (fun hlt=>?_)
 ·have hlt:i<xs.length:=by simpa using hlt
  have w1:IntKind.i64.wrap ((i:Int)+1)=((i+1:Nat):Int):=wrap_nat (by omega)
  have hd:xs.drop i=xs[i]::xs.drop (i+1):=List.drop_eq_getElem_cons hlt
  rw[hd] at h3;conv=>whnf
  refine⟨[.str xs[i]],⟨by omega,by simp[rowsS,hlt]⟩,?_⟩
  conv=>whnf
  refine(rtake_ok b l' cs _ hS₁).mono ?_
  cases l' with
  | nil=>
    rintro o S' ⟨rfl,rfl⟩;conv=>whnf
    rw[← h3];exact⟨_,_,⟨rfl,rfl⟩,St.le_refl _,AV.leS_refl _ _ _⟩
  | cons w l''=>
    rintro o S' ⟨rfl,rfl⟩;rw[St.upd_upd];conv=>whnf
    refine split_of (fun hw=>?_) (fun hw=>?_)
    ·have hw:¬ w=xs[i]:=by simpa using hw
     have h4:exactG l xs=(l'',80):=by rw[← h3];simp[exactG,hw]
     conv=>whnf
     refine(fail_ok 80 _).mono ?_;rintro o S' ⟨rfl,rfl⟩;conv=>whnf
     rw[h4];exact⟨_,_,⟨rfl,rfl⟩,St.le_refl _,AV.leS_refl _ _ _⟩
    ·have hw:w=xs[i]:=by simpa using hw
     conv=>whnf
     refine⟨(i+1,l''),⟨rfl,⟨rfl,rfl⟩,rfl,congrArg _ w1,trivial⟩,⟨_,St.leW_refl _,rfl,by omega,?_⟩,by show xs.length-(i+1)<xs.length-i;omega⟩
     rw[← h3];simp[exactG,hw]
 ·have hlt:¬ i<xs.length:=by simpa using hlt
  have hd:xs.drop i=[]:=List.drop_eq_nil_of_le (by omega)
  rw[hd] at h3;have h4:exactG l xs=(l',0):=by rw[← h3];cases l'<;>rfl
  conv=>whnf
  rw[h4];exact⟨_,_,⟨rfl,rfl⟩,St.le_refl _,AV.leS_refl _ _ _⟩
structure StepV where
 kind:Int
 num:ByteArray
 ops:List (Int×ByteArray×Int)
 pieces:List (ByteArray×Int)
 bound:ByteArray
 lits:List Int
 ids:List ByteArray
 n6:Int
 s7:ByteArray
 s8:ByteArray
def rowsO(l:List (Int×ByteArray×Int)):List (List AV):=l.map fun o=>[.int .i64 o.1,.str o.2.1,.int .i64 o.2.2]
def rowsP(l:List (ByteArray×Int)):List (List AV):=l.map fun o=>[.str o.1,.int .i64 o.2]
def rowsI(l:List Int):List (List AV):=l.map fun o=>[.int .i64 o]
@[simp] theorem rowsO_len (l):(rowsO l).length=l.length:=by simp[rowsO]
@[simp] theorem rowsP_len (l):(rowsP l).length=l.length:=by simp[rowsP]
@[simp] theorem rowsI_len (l):(rowsI l).length=l.length:=by simp[rowsI]
structure Tips where
 b3:Nat
 b4:Nat
 b6:Nat
 b7:Nat
def stepC(v:StepV)(t:Tips):List AV:=[.int .i64 v.kind,.str v.num,.sl (.acc t.b3) 3 (rowsO v.ops),.sl (.acc t.b4) 2 (rowsP v.pieces),.str v.bound,.sl (.acc t.b6) 1 (rowsI v.lits),.sl (.acc t.b7) 1 (rowsS v.ids),.int .i64 v.n6,.str v.s7,.str v.s8]
def TipOk(S₀ S:St)(b:Nat)(e:TypeId)(k n:Nat):Prop:=0<n→S b=some (.tip e k n)∧S₀ b=none
structure RdrAt (S₀ S:St) (rb:Nat) (ws:List ByteArray) (v:StepV) (t:Tips):Prop where
 le:St.le S₀ S
 new:S₀ rb=none
 at_:S rb=some (rdr ws (stepC v t))
 t3:TipOk S₀ S t.b3 85 3 v.ops.length
 t4:TipOk S₀ S t.b4 126 2 v.pieces.length
 t6:TipOk S₀ S t.b6 3 1 v.lits.length
 t7:TipOk S₀ S t.b7 9 1 v.ids.length
def Rdr(S₀ S:St)(rb:Nat)(ws:List ByteArray)(v:StepV):Prop:=∃ t,RdrAt S₀ S rb ws v t
theorem TipOk.keep{S₀ S S':St}{b:Nat}{e:TypeId}{k n:Nat}(h:TipOk S₀ S b e k n)(hk:∀ o,S b=some o→S' b=some o):TipOk S₀ S' b e k n:=fun hn=>⟨hk _ (h hn).1,(h hn).2⟩
theorem TipOk.upd{S₀ S:St}{b rb:Nat}{e:TypeId}{k n:Nat}(h:TipOk S₀ S b e k n){e':TypeId}{cs:List AV}(hr:S rb=some (.obj e' cs))(o:Own):TipOk S₀ (S.upd rb o) b e k n:=fun hn=>by
 obtain⟨h1,h2⟩:=h hn;have:b≠rb:=by rintro rfl;rw[h1] at hr;cases hr
 exact⟨by rw[St.upd_ne _ _ _ _ this];exact h1,h2⟩
theorem RdrAt.set{S₀ S:St}{rb:Nat}{ws ws':List ByteArray}{v v':StepV}{t:Tips}(h:RdrAt S₀ S rb ws v t)(e1:v'.ops=v.ops)(e2:v'.pieces=v.pieces)(e3:v'.lits=v.lits)(e4:v'.ids=v.ids):RdrAt S₀ (S.upd rb (rdr ws' (stepC v' t))) rb ws' v' t:=
 ⟨St.le_upd h.le h.new _,h.new,St.upd_same _ _ _,by rw[e1];exact h.t3.upd h.at_ _,by rw[e2];exact h.t4.upd h.at_ _,by rw[e3];exact h.t6.upd h.at_ _,by rw[e4];exact h.t7.upd h.at_ _⟩
theorem RdrAt.words{S₀ S:St}{rb:Nat}{ws ws':List ByteArray}{v:StepV}{t:Tips}(h:RdrAt S₀ S rb ws v t):RdrAt S₀ (S.upd rb (rdr ws' (stepC v t))) rb ws' v t:=h.set rfl rfl rfl rfl
theorem RdrAt.more{S₀ S:St}{rb:Nat}{ws:List ByteArray}{v:StepV}{t:Tips}(h:RdrAt S₀ S rb ws v t){b:Nat}(hb:S b=none)(o:Own):RdrAt S₀ (S.upd b o) rb ws v t:=by
 have hk:∀ x p,S x=some p→(S.upd b o) x=some p:=fun x p hx=>by rw[St.upd_ne _ _ _ _ (St.ne_of hb hx)];exact hx
 exact⟨fun x p hx=>hk _ _ (h.le x p hx),h.new,hk _ _ h.at_,h.t3.keep (hk _),h.t4.keep (hk _),h.t6.keep (hk _),h.t7.keep (hk _)⟩
theorem AccStep.other{S S':St}{b b':Nat}{e:TypeId}{k n m:Nat}(ht:0<n→S b=some (.tip e k n))(ha:AccStep S b e k n m b' S'){x:Nat}{o:Own}(hx:S x=some o)(ho:∀ n',o≠.tip e k n'):S' x=some o:=by
 rcases ha with ⟨e1,rfl,rfl⟩ | ⟨e1,S₁,c1,c2,c3,rfl⟩
 ·exact hx
 ·have:S₁ x=some o:=by
   by_cases hn:n=0
   ·rw[c1 hn];exact hx
   ·have hne:x≠b:=by
     rintro rfl;rw[ht (by omega)] at hx
     cases hx
     exact ho n rfl
    rw[c2 (by omega),St.del_ne _ _ _ hne];exact hx
  rw[St.upd_ne _ _ _ _ (fun e=>by rw[e,c3] at this;cases this)];exact this
theorem AccStep.tipOk{S₀ S S':St}{b b':Nat}{e:TypeId}{k n m:Nat}(h:TipOk S₀ S b e k n)(hle:St.le S₀ S)(ha:AccStep S b e k n m b' S'):TipOk S₀ S' b' e k (n+m)∧St.le S₀ S':=by
 rcases ha with ⟨rfl,rfl,rfl⟩ | ⟨e1,S₁,c1,c2,c3,rfl⟩
 ·exact⟨h,hle⟩
 ·have h1:St.le S₀ S₁:=by
   by_cases hn:n=0
   ·rw[c1 hn];exact hle
   ·rw[c2 (by omega)];exact St.le_del' hle (h (by omega)).2
  have h0:S₀ b'=none:=by
   cases e:S₀ b' with
   | none=>rfl
   | some o=>rw[h1 _ _ e] at c3;cases c3
  exact⟨fun _=>⟨St.upd_same _ _ _,h0⟩,St.le_upd h1 h0 _⟩
theorem TipOk.keep'{S₀ S S':St}{b b1 b2:Nat}{e e':TypeId}{k n k' n' m:Nat}(h:TipOk S₀ S b e k n)(ht:0<n'→S b1=some (.tip e' k' n'))(ha:AccStep S b1 e' k' n' m b2 S')(hne:e≠e'):TipOk S₀ S' b e k n:=fun hn=>
 ⟨AccStep.other ht ha (h hn).1 (by intro x he;cases he;exact hne rfl),(h hn).2⟩
theorem RdrAt.push7{S₀ S S':St}{rb b' m:Nat}{ws:List ByteArray}{v:StepV}{t:Tips}(h:RdrAt S₀ S rb ws v t)(ha:AccStep S t.b7 9 1 v.ids.length m b' S'){new:List ByteArray}(hm:new.length=m) :
 S' rb=some (rdr ws (stepC v t))∧RdrAt S₀ (S'.upd rb (rdr ws (stepC { v with ids:=v.ids++new } { t with b7:=b' }))) rb ws { v with ids:=v.ids++new } { t with b7:=b' }:=by
 have ht:0<v.ids.length→S t.b7=some (.tip 9 1 v.ids.length):=fun hn=>(h.t7 hn).1
 obtain⟨k1,k2⟩:=AccStep.tipOk h.t7 h.le ha;have hr:=AccStep.other ht ha h.at_ (by intro n' e;unfold rdr at e;cases e)
 refine⟨hr,St.le_upd k2 h.new _,h.new,St.upd_same _ _ _,TipOk.upd (h.t3.keep' ht ha ?_) hr _,TipOk.upd (h.t4.keep' ht ha ?_) hr _,TipOk.upd (h.t6.keep' ht ha ?_) hr _,TipOk.upd (by rw[List.length_append,hm];exact k1) hr _⟩
 all_goals decide
theorem RdrAt.push3{S₀ S S':St}{rb b' m:Nat}{ws:List ByteArray}{v:StepV}{t:Tips}(h:RdrAt S₀ S rb ws v t)(ha:AccStep S t.b3 85 3 v.ops.length m b' S'){new:List (Int×ByteArray×Int)}(hm:new.length=m) :
 S' rb=some (rdr ws (stepC v t))∧RdrAt S₀ (S'.upd rb (rdr ws (stepC { v with ops:=v.ops++new } { t with b3:=b' }))) rb ws { v with ops:=v.ops++new } { t with b3:=b' }:=by
 have ht:0<v.ops.length→S t.b3=some (.tip 85 3 v.ops.length):=fun hn=>(h.t3 hn).1
 obtain⟨k1,k2⟩:=AccStep.tipOk h.t3 h.le ha;have hr:=AccStep.other ht ha h.at_ (by intro n' e;unfold rdr at e;cases e)
 refine⟨hr,St.le_upd k2 h.new _,h.new,St.upd_same _ _ _,TipOk.upd (by rw[List.length_append,hm];exact k1) hr _,TipOk.upd (h.t4.keep' ht ha ?_) hr _,TipOk.upd (h.t6.keep' ht ha ?_) hr _,TipOk.upd (h.t7.keep' ht ha ?_) hr _⟩
 all_goals decide
theorem RdrAt.push4{S₀ S S':St}{rb b' m:Nat}{ws:List ByteArray}{v:StepV}{t:Tips}(h:RdrAt S₀ S rb ws v t)(ha:AccStep S t.b4 126 2 v.pieces.length m b' S'){new:List (ByteArray×Int)}(hm:new.length=m) :
 S' rb=some (rdr ws (stepC v t))∧RdrAt S₀ (S'.upd rb (rdr ws (stepC { v with pieces:=v.pieces++new } { t with b4:=b' }))) rb ws { v with pieces:=v.pieces++new } { t with b4:=b' }:=by
 have ht:0<v.pieces.length→S t.b4=some (.tip 126 2 v.pieces.length):=fun hn=>(h.t4 hn).1
 obtain⟨k1,k2⟩:=AccStep.tipOk h.t4 h.le ha;have hr:=AccStep.other ht ha h.at_ (by intro n' e;unfold rdr at e;cases e)
 refine⟨hr,St.le_upd k2 h.new _,h.new,St.upd_same _ _ _,TipOk.upd (h.t3.keep' ht ha ?_) hr _,TipOk.upd (by rw[List.length_append,hm];exact k1) hr _,TipOk.upd (h.t6.keep' ht ha ?_) hr _,TipOk.upd (h.t7.keep' ht ha ?_) hr _⟩
 all_goals decide
theorem RdrAt.push6{S₀ S S':St}{rb b' m:Nat}{ws:List ByteArray}{v:StepV}{t:Tips}(h:RdrAt S₀ S rb ws v t)(ha:AccStep S t.b6 3 1 v.lits.length m b' S'){new:List Int}(hm:new.length=m) :
 S' rb=some (rdr ws (stepC v t))∧RdrAt S₀ (S'.upd rb (rdr ws (stepC { v with lits:=v.lits++new } { t with b6:=b' }))) rb ws { v with lits:=v.lits++new } { t with b6:=b' }:=by
 have ht:0<v.lits.length→S t.b6=some (.tip 3 1 v.lits.length):=fun hn=>(h.t6 hn).1
 obtain⟨k1,k2⟩:=AccStep.tipOk h.t6 h.le ha;have hr:=AccStep.other ht ha h.at_ (by intro n' e;unfold rdr at e;cases e)
 refine⟨hr,St.le_upd k2 h.new _,h.new,St.upd_same _ _ _,TipOk.upd (h.t3.keep' ht ha ?_) hr _,TipOk.upd (h.t4.keep' ht ha ?_) hr _,TipOk.upd (by rw[List.length_append,hm];exact k1) hr _,TipOk.upd (h.t7.keep' ht ha ?_) hr _⟩
 all_goals decide
def numG(low:Int):List ByteArray→ByteArray×Int×List ByteArray
 | []=>(⟨#[]⟩,82,[])
 | w::l=>if isNumV w.data.toList low then (w,0,l) else (⟨#[]⟩,81,l)
theorem number_ok(rb:Nat)(l:List ByteArray)(cs:List AV)(low:Int)(h0:-9223372036854775808≤low)(h1:low≤9223372036854775807)(S:St)(hS:S rb=some (rdr l cs))(hw:∀ w∈l,w.size≤9000000) :
 Triple P (C G) 139 [.ref rb 0,.int .i64 low] S fun o S'=>o=.ret (.tu [.str (numG low l).1,errAV (numG low l).2.1])∧S'=S.upd rb (rdr (numG low l).2.2 cs):=by
 refine triple_of_awp (hT G) hm Tryz.func139 rfl (by decide +kernel) rfl (by decide +kernel) (by show 2≤_;decide +kernel) rfl ?_
 conv=>whnf
 refine(rtake_ok rb l cs S hS).mono ?_
 cases l with
 | nil=>
   rintro o S' ⟨rfl,rfl⟩;conv=>whnf
   refine⟨_,_,⟨rfl,rfl⟩,?_,AV.leS_refl _ _ _⟩;rw[show rdr (numG low []).2.2 cs=rdr [] cs from rfl,St.upd_id hS];exact St.le_refl _
 | cons w l=>
   rintro o S' ⟨rfl,rfl⟩;conv=>whnf
   refine(isNumber_ok w (hw w (by simp)) low h0 h1 _).mono ?_
   rintro o S' ⟨rfl,rfl⟩;simp only[numG]
   cases isNumV w.data.toList low with
   | false=>
     conv=>whnf
     refine(fail_ok 81 _).mono ?_;rintro o S' ⟨rfl,rfl⟩;conv=>whnf
     exact⟨_,_,⟨rfl,rfl⟩,St.le_refl _,AV.leS_refl _ _ _⟩
   | true=>
     conv=>whnf
     exact⟨_,_,⟨rfl,rfl⟩,St.le_refl _,AV.leS_refl _ _ _⟩
def rlitG:List ByteArray→Int×Int×List ByteArray
 | []=>(0,82,[])
 | w::l=>if litV w.data.toList=0 then (0,81,l) else (litV w.data.toList,0,l)
theorem rlit_ok(hG:GS G)(rb:Nat)(l:List ByteArray)(cs:List AV)(S:St)(hS:S rb=some (rdr l cs))(hw:∀ w∈l,w.size≤9000000) :
 Triple P (C G) 157 [.ref rb 0] S fun o S'=>o=.ret (.tu [.int .i64 (rlitG l).1,errAV (rlitG l).2.1])∧S'=S.upd rb (rdr (rlitG l).2.2 cs):=by
 refine triple_of_awp (hT G) hm Tryz.func157 rfl (by decide +kernel) rfl (by decide +kernel) (by show 1≤_;decide +kernel) rfl ?_
 conv=>whnf
 refine(rtake_ok rb l cs S hS).mono ?_
 cases l with
 | nil=>
   rintro o S' ⟨rfl,rfl⟩;conv=>whnf
   refine⟨_,_,⟨rfl,rfl⟩,?_,AV.leS_refl _ _ _⟩;rw[show rdr (rlitG []).2.2 cs=rdr [] cs from rfl,St.upd_id hS];exact St.le_refl _
 | cons w l=>
   rintro o S' ⟨rfl,rfl⟩;conv=>whnf
   refine(literal_ok hG w (hw w (by simp)) _).mono ?_
   rintro o S' ⟨rfl,rfl⟩;simp only[rlitG];generalize litV w.data.toList=z;conv=>whnf
   refine split_of (fun h=>?_) (fun h=>?_)
   ·have h:z=0:=by simpa using h
    rw[if_pos h];conv=>whnf
    refine(fail_ok 81 _).mono ?_;rintro o S' ⟨rfl,rfl⟩;conv=>whnf
    exact⟨_,_,⟨rfl,rfl⟩,St.le_refl _,AV.leS_refl _ _ _⟩
   ·have h:¬ z=0:=by simpa using h
    rw[if_neg h];conv=>whnf
    exact⟨_,_,⟨rfl,rfl⟩,St.le_refl _,AV.leS_refl _ _ _⟩
def idsG:List ByteArray→List ByteArray→List ByteArray×Int×List ByteArray
 | [],ids=>(ids,0,[])
 | w::l,ids=>if isNumV w.data.toList 1 then idsG l (ids++[w]) else (ids,81,l)
theorem rowsS_snoc(l:List ByteArray)(x:ByteArray):rowsS l++[[AV.str x]]=rowsS (l++[x]):=by simp[rowsS]
theorem rowsI_snoc(l:List Int)(x:Int):rowsI l++[[AV.int .i64 x]]=rowsI (l++[x]):=by simp[rowsI]
theorem ids_ok{S₀ S:St}{rb:Nat}{ws:List ByteArray}{v:StepV}(h:Rdr S₀ S rb ws v)(hw:∀ w∈ws,w.size≤9000000)(hn:ws.length+v.ids.length≤10000000) :
 Triple P (C G) 142 [.ref rb 0] S fun o S'=>o=.ret (errAV (idsG ws v.ids).2.1)∧Rdr S₀ S' rb (idsG ws v.ids).2.2 { v with ids:=(idsG ws v.ids).1 }:=by
 refine triple_of_awp (hT G) hm Tryz.func142 rfl (by decide +kernel) rfl (by decide +kernel) (by show 1≤_;decide +kernel) rfl ?_
 conv=>whnf
 refine⟨⟨List ByteArray×List ByteArray,fun _=>[(0,.ref rb 0)],
  fun x S'=>Rdr S₀ S' rb x.1 { v with ids:=x.2 }∧idsG x.1 x.2=idsG ws v.ids∧x.1.length+x.2.length≤10000000∧∀ w∈x.1,w.size≤9000000,fun x=>x.1.length⟩,
  ⟨(ws,v.ids),⟨rfl,trivial⟩,⟨_,St.leW_refl _,h,rfl,hn,hw⟩⟩,?_⟩
 rintro⟨l,ids⟩ S₁ ⟨⟨t,hat⟩,h2,h3,h4⟩;dsimp only at hat h2 h3 h4;rw[← h2];have hcs:=hat.at_;conv=>whnf
 refine⟨_,_,hcs,?_⟩;conv=>whnf
 intro _
 cases l with
 | nil=>
   conv=>whnf
   exact⟨_,_,⟨rfl,t,hat⟩,St.le_refl _,AV.leS_refl _ _ _⟩
 | cons w l=>
   refine split_of (fun hlt=>?_) (fun hlt=>by simp[rowsS] at hlt)
   conv=>whnf
   refine(number_ok rb (w::l) _ 1 (by decide) (by decide) S₁ hcs h4).mono ?_
   rintro o S' ⟨rfl,rfl⟩;simp only[numG,idsG] at h2 ⊢
   cases hnum:isNumV w.data.toList 1 with
   | false=>
     rw[hnum] at h2;simp only[Bool.false_eq_true,if_false] at h2 ⊢;conv=>whnf
     exact⟨_,_,⟨rfl,t,hat.words⟩,St.le_refl _,AV.leS_refl _ _ _⟩
   | true=>
     rw[hnum] at h2;simp only[if_true] at h2 ⊢;have hat2:=hat.words (ws':=l);rw[show errAV 0=.nili from rfl];have hcs2:=hat2.at_;generalize S₁.upd rb (rdr l (stepC { v with ids:=ids } t))=S₂ at *;conv=>whnf
     refine⟨_,_,hcs2,?_⟩;conv=>whnf
     intro bb hbb;have hat3:=hat2.more hbb (.tip 9 1 1);conv=>whnf
     refine⟨⟨fun hl=>?_,?_⟩,fun S3 c1 c2 b' c3=>?_⟩
     ·have:0<ids.length:=by cases ids with
       | nil=>exact absurd rfl hl
       | cons _ _=>simp
      rw[rowsS_len];exact(hat3.t7 this).1
     ·show((rowsS ids).length+1)*16≤_
      rw[rowsS_len];simp at h3;omega
     have ha:AccStep (S₂.upd bb (.tip 9 1 1)) t.b7 9 1 ids.length 1 b' (S3.upd b' (.tip 9 1 (ids.length+1))):=.inr ⟨by simp,S3,fun e=>c1 (by rw[List.eq_nil_of_length_eq_zero e];rfl),fun e=>c2 (by cases ids<;>simp_all [rowsS]),c3,rfl⟩
     obtain⟨k1,k2⟩:=hat3.push7 ha (new:=[w]) rfl;rw[show rowsS ({ v with ids:=ids }:StepV).ids++[[AV.str w]]=rowsS (ids++[w]) from rowsS_snoc ids w,show(rowsS ({ v with ids:=ids }:StepV).ids).length=ids.length from rowsS_len ids];conv=>whnf
     refine⟨_,_,k1,?_⟩;conv=>whnf
     refine⟨(l,ids++[w]),⟨rfl,trivial⟩,⟨_,St.leW_refl _,⟨_,k2⟩,?_,by simp at h3 ⊢;omega,fun x hx=>h4 x (by simp[hx])⟩,by show l.length<l.length+1;omega⟩
     exact rfl
def litsG:List ByteArray→List Int→List Int×Int×List ByteArray
 | [],ls=>(ls,0,[])
 | w::l,ls=>if litV w.data.toList=0 then (ls,81,l) else litsG l (ls++[litV w.data.toList])
theorem lits_ok(hG:GS G){S₀ S:St}{rb:Nat}{ws:List ByteArray}{v:StepV}(h:Rdr S₀ S rb ws v)(hw:∀ w∈ws,w.size≤9000000)(hn:ws.length+v.lits.length≤10000000) :
 Triple P (C G) 143 [.ref rb 0] S fun o S'=>o=.ret (errAV (litsG ws v.lits).2.1)∧Rdr S₀ S' rb (litsG ws v.lits).2.2 { v with lits:=(litsG ws v.lits).1 }:=by
 refine triple_of_awp (hT G) hm Tryz.func143 rfl (by decide +kernel) rfl (by decide +kernel) (by show 1≤_;decide +kernel) rfl ?_
 conv=>whnf
 refine⟨⟨List ByteArray×List Int,fun _=>[(0,.ref rb 0)],
  fun x S'=>Rdr S₀ S' rb x.1 { v with lits:=x.2 }∧litsG x.1 x.2=litsG ws v.lits∧x.1.length+x.2.length≤10000000∧∀ w∈x.1,w.size≤9000000,fun x=>x.1.length⟩,
  ⟨(ws,v.lits),⟨rfl,trivial⟩,⟨_,St.leW_refl _,h,rfl,hn,hw⟩⟩,?_⟩
 rintro⟨l,ls⟩ S₁ ⟨⟨t,hat⟩,h2,h3,h4⟩;dsimp only at hat h2 h3 h4;rw[← h2];have hcs:=hat.at_;conv=>whnf
 refine⟨_,_,hcs,?_⟩;conv=>whnf
 intro _
 cases l with
 | nil=>
   conv=>whnf
   exact⟨_,_,⟨rfl,t,hat⟩,St.le_refl _,AV.leS_refl _ _ _⟩
 | cons w l=>
   refine split_of (fun hlt=>?_) (fun hlt=>by simp[rowsS] at hlt)
   conv=>whnf
   refine(rlit_ok hG rb (w::l) _ S₁ hcs h4).mono ?_;rintro o S' ⟨rfl,rfl⟩;simp only[rlitG,litsG] at h2 ⊢;generalize litV w.data.toList=z at *
   by_cases hz:z=0
   ·simp only[hz,if_true] at h2 ⊢;conv=>whnf
    exact⟨_,_,⟨rfl,t,hat.words⟩,St.le_refl _,AV.leS_refl _ _ _⟩
   ·simp only[if_neg hz] at h2 ⊢;have hat2:=hat.words (ws':=l);rw[show errAV 0=.nili from rfl];have hcs2:=hat2.at_;generalize S₁.upd rb (rdr l (stepC { v with lits:=ls } t))=S₂ at *;conv=>whnf
    refine⟨_,_,hcs2,?_⟩;conv=>whnf
    intro bb hbb;have hat3:=hat2.more hbb (.tip 3 1 1);conv=>whnf
    refine⟨⟨fun hl=>?_,?_⟩,fun S3 c1 c2 b' c3=>?_⟩
    ·have:0<ls.length:=by cases ls with
      | nil=>exact absurd rfl hl
      | cons _ _=>simp
     rw[rowsI_len];exact(hat3.t6 this).1
    ·show((rowsI ls).length+1)*8≤_
     rw[rowsI_len];simp at h3;omega
    have ha:AccStep (S₂.upd bb (.tip 3 1 1)) t.b6 3 1 ls.length 1 b' (S3.upd b' (.tip 3 1 (ls.length+1))):=.inr ⟨by simp,S3,fun e=>c1 (by rw[List.eq_nil_of_length_eq_zero e];rfl),fun e=>c2 (by cases ls<;>simp_all [rowsI]),c3,rfl⟩
    obtain⟨k1,k2⟩:=hat3.push6 ha (new:=[z]) rfl;rw[show rowsI ({ v with lits:=ls }:StepV).lits++[[AV.int .i64 z]]=rowsI (ls++[z]) from rowsI_snoc ls z,show(rowsI ({ v with lits:=ls }:StepV).lits).length=ls.length from rowsI_len ls];conv=>whnf
    refine⟨_,_,k1,?_⟩;conv=>whnf
    refine⟨(l,ls++[z]),⟨rfl,trivial⟩,⟨_,St.leW_refl _,⟨_,k2⟩,?_,by simp at h3 ⊢;omega,fun x hx=>h4 x (by simp[hx])⟩,by show l.length<l.length+1;omega⟩
    exact rfl
def geS:ByteArray:=⟨#[62,61]⟩
def semiS:ByteArray:=⟨#[59]⟩
def pieceG:List ByteArray→List (ByteArray×Int)→List (ByteArray×Int)×Int×List ByteArray
 | [],p=>(p,82,[])
 | [w],p=>if w=geS then (p,0,[w]) else if isNumV w.data.toList (-1) then (p,82,[]) else (p,81,[])
 | w::x::l,p=>if w=geS then (p,0,w::x::l) else if isNumV w.data.toList (-1) then (if litV x.data.toList=0 then (p,81,l) else pieceG l (p++[(w,litV x.data.toList)])) else (p,81,x::l)
def boundG(l:List ByteArray)(v:StepV):Int×List ByteArray×StepV:=
 if (numG (-1) l).2.1=0 then ((exactG (numG (-1) l).2.2 [semiS]).2,(exactG (numG (-1) l).2.2 [semiS]).1,{ v with bound:=(numG (-1) l).1 })
 else ((numG (-1) l).2.1,(numG (-1) l).2.2,{ v with bound:=(numG (-1) l).1 })
def rowG(ws:List ByteArray)(v:StepV):Int×List ByteArray×StepV:=
 if (pieceG ws v.pieces).2.1=0 then boundG (pieceG ws v.pieces).2.2.tail { v with pieces:=(pieceG ws v.pieces).1 }
 else ((pieceG ws v.pieces).2.1,(pieceG ws v.pieces).2.2,{ v with pieces:=(pieceG ws v.pieces).1 })
theorem rowsP_snoc(l:List (ByteArray×Int))(x:ByteArray×Int):rowsP l++[[AV.str x.1,AV.int .i64 x.2]]=rowsP (l++[x]):=by simp[rowsP]
theorem row_ok(hG:GS G){S₀ S:St}{rb:Nat}{ws:List ByteArray}{v:StepV}(h:Rdr S₀ S rb ws v)(hw:∀ w∈ws,w.size≤9000000)(hn:ws.length+v.pieces.length≤10000000) :
 Triple P (C G) 141 [.ref rb 0] S fun o S'=>o=.ret (errAV (rowG ws v).1)∧Rdr S₀ S' rb (rowG ws v).2.1 (rowG ws v).2.2:=by
 refine triple_of_awp (hT G) hm Tryz.func141 rfl (by decide +kernel) rfl (by decide +kernel) (by show 1≤_;decide +kernel) rfl ?_
 refine awp_seq2 fun K hK hQ=>?_
 conv=>whnf
 refine hK _ _ ?_;clear hK hQ K;refine awp_seq2 fun K hK hQ=>?_
 conv=>whnf
 refine⟨⟨List ByteArray×List (ByteArray×Int),fun _=>[(0,.ref rb 0)],
  fun x S'=>Rdr S₀ S' rb x.1 { v with pieces:=x.2 }∧pieceG x.1 x.2=pieceG ws v.pieces∧x.1.length+x.2.length≤10000000∧∀ w∈x.1,w.size≤9000000,fun x=>x.1.length⟩,
  ⟨(ws,v.pieces),⟨rfl,trivial⟩,⟨_,St.leW_refl _,h,rfl,hn,hw⟩⟩,?_⟩
 rintro⟨l,ps⟩ S₁ ⟨⟨t,hat⟩,h2,h3,h4⟩;dsimp only at hat h2 h3 h4;have hcs:=hat.at_;conv=>whnf
 refine(rnext_ok rb l _ geS S₁ hcs).mono ?_;rintro o T ⟨rfl,rfl⟩
 by_cases hge:l.head? = some geS
 ·obtain⟨l',rfl⟩:∃ l',l=geS::l':=by
   cases l with
   | nil=>cases hge
   | cons w l'=>simp only[List.head?_cons,Option.some.injEq] at hge;exact⟨l',by rw[hge]⟩
  rw[decide_eq_true hge];have hr:pieceG (geS::l') ps=(ps,0,geS::l'):=by cases l'<;>simp[pieceG]
  have hrow:rowG ws v=boundG l' { v with pieces:=ps }:=by
   unfold rowG;rw[← h2,hr];rfl
  rw[hrow] at hK hQ;clear h2 hrow;conv=>whnf
  refine hK _ _ ?_;clear hK hQ K;refine awp_seq2 fun K hK hQ=>?_
  conv=>whnf
  intro bb hbb;have hat2:=hat.more hbb (.tip 9 ((C G).T 9).size 1);conv=>whnf
  refine Triple.use (exactly_ok rb (geS::l') _ [geS] (by decide) _ hat2.at_) (by exact⟨rfl,⟨rfl,rfl⟩,trivial⟩) ?_
  rintro o S' ⟨rfl,rfl⟩;have hat3:=hat2.words (ws':=l');rw[show(exactG (geS::l') [geS]).2=0 by simp[exactG],show(exactG (geS::l') [geS]).1=l' by simp[exactG]]
  rw[show errAV 0=.nili from rfl];have hcs3:=hat3.at_;generalize (T.upd bb _).upd rb _=S3 at hat3 hcs3 ⊢;conv=>whnf
  refine hK _ _ ?_;clear hK hQ K;have hnum:=number_ok (G:=G) rb l' _ (-1) (by decide) (by decide) S3 hcs3 (fun x hx=>h4 x (by simp[hx]))
  have hat4:=hat3.words (ws':=(numG (-1) l').2.2)
  have hcs4:=hat4.at_
  unfold boundG;generalize hl2:(numG (-1) l').2.2=l2 at *;generalize (numG (-1) l').1=nb at *;generalize (numG (-1) l').2.1=ne at *;have hat5:=hat4.set (v':={ v with pieces:=ps,bound:=nb }) (ws':=l2) rfl rfl rfl rfl;have hcs5:=hat5.at_
  by_cases hn0:ne=0
  ·rw[if_pos hn0];subst hn0;refine awp_seq2 fun K hK hQ=>?_
   conv=>whnf
   refine hnum.mono ?_;rintro o S' ⟨rfl,rfl⟩;rw[show errAV 0=.nili from rfl];conv=>whnf
   refine hK _ _ ?_;clear hK hQ K;refine awp_seq2 fun K hK hQ=>?_
   conv=>whnf
   refine⟨_,_,hcs4,?_⟩;conv=>whnf
   refine hK _ _ ?_;clear hK hQ K;conv=>whnf
   intro b2 hb2;have hat6:=hat5.more hb2 (.tip 9 ((C G).T 9).size 1);conv=>whnf
   refine Triple.use (exactly_ok rb l2 _ [semiS] (by decide) _ hat6.at_) (by exact⟨rfl,⟨rfl,rfl⟩,trivial⟩) ?_
   rintro o S' ⟨rfl,rfl⟩;have hat7:=hat6.words (ws':=(exactG l2 [semiS]).1)
   by_cases he:(exactG l2 [semiS]).2=0
   ·simp only[errAV,if_pos he];conv=>whnf
    exact⟨_,_,⟨rfl,t,hat7⟩,St.le_refl _,AV.leS_refl _ _ _⟩
   ·simp only[errAV,if_neg he];conv=>whnf
    exact⟨_,_,⟨rfl,t,hat7⟩,St.le_refl _,AV.leS_refl _ _ _⟩
  ·rw[if_neg hn0];simp only[errAV,if_neg hn0] at hnum ⊢;refine awp_seq2 fun K hK hQ=>?_
   conv=>whnf
   refine hnum.mono ?_;rintro o S' ⟨rfl,rfl⟩;conv=>whnf
   refine hK _ _ ?_;clear hK hQ K;refine awp_seq2 fun K hK hQ=>?_
   conv=>whnf
   refine⟨_,_,hcs4,?_⟩;conv=>whnf
   refine hK _ _ ?_;clear hK hQ K;conv=>whnf
   exact⟨_,_,⟨rfl,t,hat5⟩,St.le_refl _,AV.leS_refl _ _ _⟩
 ·rw[decide_eq_false hge];clear hK
  cases l with
  | nil=>
    have hrow:rowG ws v=(82,[],{ v with pieces:=ps }):=by unfold rowG;rw[← h2];rfl
    rw[hrow] at hQ;conv=>whnf
    refine(number_ok rb [] _ (-1) (by decide) (by decide) T hcs h4).mono ?_
    rintro o S' ⟨rfl,rfl⟩;conv=>whnf
    refine hQ _ _ _ (by simp) ?_
    conv=>whnf
    exact⟨_,_,⟨rfl,t,hat.words⟩,St.le_refl _,AV.leS_refl _ _ _⟩
  | cons w l=>
    have hw0:¬ w=geS:=fun e=>hge (by simp[e])
    have hnum:=number_ok (G:=G) rb (w::l) _ (-1) (by decide) (by decide) T hcs h4
    simp only[numG] at hnum
    cases hiw:isNumV w.data.toList (-1) with
    | false=>
      have hr:pieceG (w::l) ps=(ps,81,l):=by cases l<;>simp[pieceG,hw0,hiw]
      have hrow:rowG ws v=(81,l,{ v with pieces:=ps }):=by unfold rowG;rw[← h2,hr];rfl
      rw[hrow] at hQ;simp only[hiw,Bool.false_eq_true,if_false] at hnum;conv=>whnf
      refine hnum.mono ?_;rintro o S' ⟨rfl,rfl⟩;conv=>whnf
      refine hQ _ _ _ (by simp) ?_
      conv=>whnf
      exact⟨_,_,⟨rfl,t,hat.words⟩,St.le_refl _,AV.leS_refl _ _ _⟩
    | true=>
      simp only[hiw,if_true] at hnum;have hat2:=hat.words (ws':=l);have hcs2:=hat2.at_;have h4':∀ x∈l,x.size≤9000000:=fun x hx=>h4 x (by simp[hx])
      have hlit:=rlit_ok hG rb l _ _ hcs2 h4'
      cases l with
      | nil=>
        have hr:pieceG [w] ps=(ps,82,[]):=by simp[pieceG,hw0,hiw]
        have hrow:rowG ws v=(82,[],{ v with pieces:=ps }):=by unfold rowG;rw[← h2,hr];rfl
        rw[hrow] at hQ;conv=>whnf
        refine hnum.mono ?_;rintro o S' ⟨rfl,rfl⟩;conv=>whnf
        refine hlit.mono ?_;rintro o S' ⟨rfl,rfl⟩;conv=>whnf
        refine hQ _ _ _ (by simp) ?_
        conv=>whnf
        exact⟨_,_,⟨rfl,t,hat2.words⟩,St.le_refl _,AV.leS_refl _ _ _⟩
      | cons x l=>
        have hat3:=hat2.words (ws':=l)
        have hcs3:=hat3.at_
        simp only[rlitG] at hlit;generalize hz:litV x.data.toList=z at *
        by_cases hz0:z=0
        ·have hr:pieceG (w::x::l) ps=(ps,81,l):=by simp[pieceG,hw0,hiw,hz,hz0]
         have hrow:rowG ws v=(81,l,{ v with pieces:=ps }):=by unfold rowG;rw[← h2,hr];rfl
         rw[hrow] at hQ;simp only[if_pos hz0] at hlit;conv=>whnf
         refine hnum.mono ?_;rintro o S' ⟨rfl,rfl⟩;conv=>whnf
         refine hlit.mono ?_;rintro o S' ⟨rfl,rfl⟩;conv=>whnf
         refine hQ _ _ _ (by simp) ?_
         conv=>whnf
         exact⟨_,_,⟨rfl,t,hat3⟩,St.le_refl _,AV.leS_refl _ _ _⟩
        ·have hr:pieceG (w::x::l) ps=pieceG l (ps++[(w,z)]):=by simp[pieceG,hw0,hiw,hz,hz0]
         simp only[if_neg hz0] at hlit;rw[hr] at h2;clear hQ;generalize (T.upd rb _).upd rb _=S3 at hat3 hcs3 hlit ⊢;conv=>whnf
         refine hnum.mono ?_;rintro o S' ⟨rfl,rfl⟩;conv=>whnf
         refine hlit.mono ?_;rintro o S' ⟨rfl,rfl⟩;rw[show errAV 0=.nili from rfl];conv=>whnf
         refine⟨_,_,hcs3,?_⟩;conv=>whnf
         intro bb hbb;have hat4:=hat3.more hbb (.tip 126 2 1);conv=>whnf
         refine⟨⟨fun hl=>?_,?_⟩,fun S4 c1 c2 b' c3=>?_⟩
         ·have:0<ps.length:=by cases ps with
           | nil=>exact absurd rfl hl
           | cons _ _=>simp
          rw[rowsP_len];exact(hat4.t4 this).1
         ·show((rowsP ps).length+1)*24≤_
          rw[rowsP_len];simp at h3;omega
         have ha:AccStep (_:St) t.b4 126 2 ps.length 1 b' (S4.upd b' (.tip 126 2 (ps.length+1))):=.inr ⟨by simp,S4,fun e=>c1 (by rw[List.eq_nil_of_length_eq_zero e];rfl),fun e=>c2 (by cases ps<;>simp_all [rowsP]),c3,rfl⟩
         obtain⟨k1,k2⟩:=hat4.push4 ha (new:=[(w,z)]) rfl;rw[show rowsP ({ v with pieces:=ps }:StepV).pieces++[[AV.str w,AV.int .i64 z]]=rowsP (ps++[(w,z)]) from rowsP_snoc ps (w,z),show(rowsP ({ v with pieces:=ps }:StepV).pieces).length=ps.length from rowsP_len ps];conv=>whnf
         refine⟨_,_,k1,?_⟩;conv=>whnf
         refine⟨(l,ps++[(w,z)]),⟨rfl,trivial⟩,⟨_,St.leW_refl _,⟨_,k2⟩,h2,by simp at h3 ⊢;omega,fun y hy=>h4 y (by simp[hy])⟩,by show l.length<l.length+1+1;omega⟩
def ov(S₀:St):List (Nat×Own)→St
 | []=>S₀
 | (b,o)::r=>(ov S₀ r).upd b o
structure FpOk (S₀:St) (fp:List (Nat×Own)):Prop where
 nd:(fp.map (·.1)).Nodup
 new:∀ p∈fp,S₀ p.1=none
theorem FpOk.nil(S₀:St):FpOk S₀ []:=⟨by simp,by simp⟩
theorem ov_out{S₀:St}:∀ {fp:List (Nat×Own)} {b:Nat},b ∉ fp.map (·.1)→ov S₀ fp b=S₀ b
 | [],b,h=>rfl
 | (c,o)::r,b,h=>by
  simp only[List.map_cons,List.mem_cons,not_or] at h;simp only[ov,St.upd_ne _ _ _ _ h.1];exact ov_out h.2
theorem ov_get{S₀:St}:∀ {fp:List (Nat×Own)},(fp.map (·.1)).Nodup→∀ {b o},(b,o)∈fp→ov S₀ fp b=some o
 | [],_,b,o,h=>by cases h
 | (c,p)::r,hn,b,o,h=>by
  simp only[List.map_cons,List.nodup_cons] at hn
  rcases List.mem_cons.1 h with h | h
  ·cases h;simp only[ov,St.upd_same]
  ·have:b≠c:=fun e=>hn.1 (by rw[← e];exact List.mem_map.2 ⟨_,h,rfl⟩)
   simp only[ov,St.upd_ne _ _ _ _ this];exact ov_get hn.2 h
theorem ov_none{S₀:St}{fp:List (Nat×Own)}(hn:(fp.map (·.1)).Nodup){b:Nat}(h:ov S₀ fp b=none):S₀ b=none∧b ∉ fp.map (·.1):=by
 by_cases hb:b∈fp.map (·.1)
 ·obtain⟨⟨c,o⟩,h1,rfl⟩:=List.mem_map.1 hb;rw[ov_get hn h1] at h;cases h
 ·exact⟨(ov_out (S₀:=S₀) hb).symm.trans h,hb⟩
theorem ov_upd_mid{S₀:St}{b:Nat}{o o':Own}:∀ {pre post:List (Nat×Own)},((pre++(b,o)::post).map (·.1)).Nodup→(ov S₀ (pre++(b,o)::post)).upd b o'=ov S₀ (pre++(b,o')::post)
 | [],post,h=>by simp only[List.nil_append,ov,St.upd_upd]
 | (c,p)::pre,post,h=>by
  simp only[List.cons_append,List.map_cons,List.nodup_cons] at h;have hbc:c≠b:=fun e=>h.1 (by rw[e];simp)
  simp only[List.cons_append,ov];rw[St.upd_comm hbc,ov_upd_mid h.2]
theorem ov_new_mid{S₀:St}{b:Nat}{o:Own}:∀ {pre post:List (Nat×Own)},b ∉ (pre++post).map (·.1)→(ov S₀ (pre++post)).upd b o=ov S₀ (pre++(b,o)::post)
 | [],post,h=>rfl
 | (c,p)::pre,post,h=>by
  simp only[List.cons_append,List.map_cons,List.mem_cons,not_or] at h;simp only[List.cons_append,ov];rw[St.upd_comm (Ne.symm h.1),ov_new_mid h.2]
theorem ov_del_mid{S₀:St}{b:Nat}{o:Own}(hb:S₀ b=none):∀ {pre post:List (Nat×Own)},((pre++(b,o)::post).map (·.1)).Nodup→(ov S₀ (pre++(b,o)::post)).del b=ov S₀ (pre++post)
 | [],post,h=>by
  simp only[List.nil_append,List.map_cons,List.nodup_cons] at h;simp only[List.nil_append,ov];exact St.del_upd (by rw[ov_out h.1];exact hb)
 | (c,p)::pre,post,h=>by
  simp only[List.cons_append,List.map_cons,List.nodup_cons] at h;have hbc:c≠b:=fun e=>h.1 (by rw[e];simp)
  simp only[List.cons_append,ov];rw[← ov_del_mid hb h.2]
  funext x
  by_cases hx:x=b
  ·subst hx;rw[St.del_same,St.upd_ne _ _ _ _ (Ne.symm hbc),St.del_same]
  ·rw[St.del_ne _ _ _ hx]
   by_cases hc:x=c
   ·subst hc;rw[St.upd_same,St.upd_same]
   ·rw[St.upd_ne _ _ _ _ hc,St.upd_ne _ _ _ _ hc,St.del_ne _ _ _ hx]
theorem FpOk.set{S₀:St}{b:Nat}{o:Own}{pre post:List (Nat×Own)}(h:FpOk S₀ (pre++(b,o)::post))(o':Own):FpOk S₀ (pre++(b,o')::post):=by
 refine⟨by simpa using h.nd,fun p hp=>?_⟩
 simp only[List.mem_append,List.mem_cons] at hp
 rcases hp with hp | rfl | hp
 ·exact h.new p (by simp[hp])
 ·exact h.new (b,o) (by simp)
 ·exact h.new p (by simp[hp])
theorem FpOk.add{S₀:St}{b:Nat}{pre post:List (Nat×Own)}(h:FpOk S₀ (pre++post))(hb:ov S₀ (pre++post) b=none)(o:Own):FpOk S₀ (pre++(b,o)::post):=by
 obtain⟨h1,h2⟩:=ov_none h.nd hb;refine⟨?_,fun p hp=>?_⟩
 ·have hn:=h.nd
  simp only[List.map_append,List.map_cons] at hn h2 ⊢;rw[List.nodup_append] at hn ⊢;obtain⟨n1,n2,n3⟩:=hn;simp only[List.mem_append,not_or] at h2;refine⟨n1,List.nodup_cons.2 ⟨h2.2,n2⟩,fun x hx y hy=>?_⟩
  rcases List.mem_cons.1 hy with rfl | hy
  ·exact fun e=>h2.1 (by rw[← e];exact hx)
  ·exact n3 x hx y hy
 ·simp only[List.mem_append,List.mem_cons] at hp
  rcases hp with hp | rfl | hp
  ·exact h.new p (by simp[hp])
  ·exact h1
  ·exact h.new p (by simp[hp])
theorem FpOk.sub{S₀:St}{fp fp':List (Nat×Own)}(h:FpOk S₀ fp)(hs:List.Sublist fp' fp):FpOk S₀ fp':=
 ⟨List.Nodup.sublist (hs.map _) h.nd,fun p hp=>h.new p (hs.subset hp)⟩
theorem FpOk.drop{S₀:St}{b:Nat}{o:Own}{pre post:List (Nat×Own)}(h:FpOk S₀ (pre++(b,o)::post)):FpOk S₀ (pre++post):=
 h.sub ((List.Sublist.refl pre).append (List.sublist_cons_self _ _))
theorem ov_le(S₀:St){fp:List (Nat×Own)}(h:FpOk S₀ fp):St.le S₀ (ov S₀ fp):=fun b o hb=>by
 have:b ∉ fp.map (·.1):=fun hh=>by
  obtain⟨p,h1,rfl⟩:=List.mem_map.1 hh;rw[h.new p h1] at hb;cases hb
 rw[ov_out this];exact hb
structure AccL where
 b:Nat
 es:List (List AV)
def AccL.av(a:AccL):AV:=.sl (.acc a.b) 1 a.es
def AccL.fp(a:AccL)(e:TypeId):List (Nat×Own):=match a.es with | []=>[] | r::rs=>[(a.b,.tip e 1 (r::rs).length)]
def AccL.empty:AccL:=⟨0,[]⟩
def AccL.push(a:AccL)(b:Nat)(x:AV):AccL:=⟨b,a.es++[[x]]⟩
theorem AccL.tip{S₀:St}{pre post:List (Nat×Own)}{a:AccL}{e:TypeId}(h:FpOk S₀ (pre++(a.fp e++post)))(hn:a.es≠[]):ov S₀ (pre++(a.fp e++post)) a.b=some (.tip e 1 a.es.length):=by
 refine ov_get h.nd ?_;obtain⟨b,es⟩:=a
 cases es with
 | nil=>exact absurd rfl hn
 | cons r rs=>simp[AccL.fp]
theorem AccL.pushed{S₀:St}{pre post:List (Nat×Own)}{a:AccL}{e:TypeId}(h:FpOk S₀ (pre++(a.fp e++post))){S₁:St}(h1:a.es=[]→S₁=ov S₀ (pre++(a.fp e++post)))(h2:a.es≠[]→S₁=(ov S₀ (pre++(a.fp e++post))).del a.b){b':Nat}(hb:S₁ b'=none)
 (x:AV) {n:Nat} (hn:n=a.es.length+1) :
 S₁.upd b' (.tip e 1 n)=ov S₀ (pre++((a.push b' x).fp e++post))∧FpOk S₀ (pre++((a.push b' x).fp e++post)):=by
 subst hn;obtain⟨b,es⟩:=a;have hfp:(AccL.push ⟨b,es⟩ b' x).fp e=[(b',.tip e 1 (es.length+1))]:=by
  unfold AccL.fp AccL.push
  cases es with
  | nil=>simp
  | cons x xs=>simp
 simp only[hfp,List.cons_append,List.nil_append]
 cases es with
 | nil=>
   have hS:=h1 rfl
   simp only[AccL.fp,List.nil_append] at hS h;subst hS;exact⟨ov_new_mid (ov_none h.nd hb).2,h.add hb _⟩
 | cons y ys=>
   have hS:=h2 (by simp)
   simp only[AccL.fp,List.cons_append,List.nil_append] at hS h;rw[ov_del_mid (h.new (b,.tip e 1 (y::ys).length) (by simp)) h.nd] at hS
   subst hS;exact⟨ov_new_mid (ov_none h.drop.nd hb).2,h.drop.add hb _⟩
theorem AV.le_refl:∀ x,AV.le x x
 | .sl sh k es=>by cases sh<;>simp[AV.le,Sh.mayNil]
 | .int _ _=>rfl
 | .bool _=>rfl
 | .str _=>rfl
 | .nilp=>rfl
 | .ref _ _=>rfl
 | .imm _=>rfl
 | .nils=>rfl
 | .arr _ _ _ _=>rfl
 | .ag _=>rfl
 | .tu _=>rfl
 | .nilf=>rfl
 | .fn _ _ _=>rfl
 | .nili=>rfl
 | .ifc _ _=>rfl
 | .nilm=>rfl
 | .mp _=>rfl
 | .raw _=>rfl
 | .top=>by simp[AV.le]
theorem leL_refl:∀ xs,leL xs xs
 | []=>trivial
 | x::xs=>⟨AV.le_refl x,leL_refl xs⟩
theorem Triple.lessW{P:Program}{C:Cx}{f:FuncId}{args:List AV}{S:St}{Q Q':Out→St→Prop}(h:Triple P C f args S Q)(hq:∀ o S',Q o S'→∃ S'',Q' o S''∧St.leW S'' S'):Triple P C f args S Q':=
 ⟨fun w vs hY hg hr=>(h.out w vs hY hg hr).mono fun e w' ⟨o,S',h1,h2,h3,h4⟩=>by
  obtain⟨S'',k1,k2⟩:=hq o S' h4;refine⟨o,S'',?_,h2.weakS k2,h3.trans (Adv.weakS k2 (Adv.refl _ _)),k1⟩
  cases o<;>cases e<;>first | exact h1.elim | skip
  ·show Rel w' (rdOf S'') _ _
   rw[St.leW_rd k2];exact h1
  ·obtain⟨v,rfl,hv⟩:=h1;exact⟨v,rfl,by rw[St.leW_rd k2];exact hv⟩⟩
def OkW(ws:List ByteArray):Prop:=(∀ w∈ws,w.size≤9000000)∧ws.length≤9000000
def OkV(v:StepV):Prop:=v.ops.length≤10∧v.pieces.length≤10∧v.lits.length≤10∧v.ids.length≤10
theorem OkW.suffix{a b:List ByteArray}(h:OkW b)(hs:a <:+ b):OkW a:=⟨fun w hw=>h.1 w (hs.mem hw),Nat.le_trans hs.length_le h.2⟩
theorem exactG_suffix:∀ (l xs:List ByteArray),(exactG l xs).1 <:+ l
 | l,[]=>by cases l<;>exact List.suffix_refl _
 | [],_::_=>List.suffix_refl _
 | w::l,x::xs=>by
   unfold exactG
   split
   ·exact(exactG_suffix l xs).trans (List.suffix_cons _ _)
   ·exact List.suffix_cons _ _
theorem numG_suffix(low:Int):∀ l:List ByteArray,(numG low l).2.2 <:+ l
 | []=>List.suffix_refl _
 | w::l=>by
   simp only[numG]
   split<;>exact List.suffix_cons _ _
theorem pieceG_suffix:∀ (l:List ByteArray) (p:List (ByteArray×Int)),(pieceG l p).2.2 <:+ l
 | [],p=>List.suffix_refl _
 | [w],p=>by
  unfold pieceG
  split
  ·exact List.suffix_refl _
  ·split<;>exact List.suffix_cons _ _
 | w::x::l,p=>by
   unfold pieceG
   split
   ·exact List.suffix_refl _
   ·split
    ·split
     ·exact(List.suffix_cons _ _).trans (List.suffix_cons _ _)
     ·exact(pieceG_suffix l _).trans ((List.suffix_cons _ _).trans (List.suffix_cons _ _))
    ·exact List.suffix_cons _ _
theorem rowG_suffix(ws:List ByteArray)(v:StepV):(rowG ws v).2.1 <:+ ws:=by
 unfold rowG;have h:=pieceG_suffix ws v.pieces
 split
 ·unfold boundG;have h1:=(List.tail_suffix (pieceG ws v.pieces).2.2).trans h;have h2:=(numG_suffix (-1) (pieceG ws v.pieces).2.2.tail).trans h1
  split
  ·exact(exactG_suffix _ _).trans h2
  ·exact h2
 ·exact h
theorem rowG_ids(ws:List ByteArray)(v:StepV):(rowG ws v).2.2.ids=v.ids:=by
 unfold rowG boundG
 split
 ·split<;>rfl
 ·rfl
abbrev RetG:=Int×List ByteArray×StepV
def fixG(k:Int)(xs ws:List ByteArray)(v:StepV):RetG:=((exactG ws xs).2,(exactG ws xs).1,{ v with kind:=k })
def headWords:List ByteArray:=[⟨#[112,114,111,111,102]⟩,⟨#[118,101,114,115,105,111,110]⟩,⟨#[50,46,48]⟩]
def outputWords:List ByteArray:=[⟨#[78,79,78,69]⟩]
def lastWords:List ByteArray:=[⟨#[112,115,101,117,100,111,45,66,111,111,108,101,97,110]⟩,⟨#[112,114,111,111,102]⟩]
theorem head_ok{S₀ S:St}{rb:Nat}{ws:List ByteArray}{v:StepV}(h:Rdr S₀ S rb ws v) :
 Triple P (C G) 112 [.ref rb 0] S fun o S'=>o=.ret (errAV (fixG 1 headWords ws v).1)∧Rdr S₀ S' rb (fixG 1 headWords ws v).2.1 (fixG 1 headWords ws v).2.2:=by
 obtain⟨t,hat⟩:=h;have hcs:=hat.at_;have hat2:=hat.set (v':={ v with kind:=1 }) (ws':=ws) rfl rfl rfl rfl;refine triple_of_awp (hT G) hm Tryz.func112 rfl (by decide +kernel) rfl (by decide +kernel) (by show 1≤_;decide +kernel) rfl ?_
 conv=>whnf
 refine⟨_,_,hcs,?_⟩;conv=>whnf
 intro bb hbb;have hat3:=hat2.more hbb (.tip 9 ((C G).T 9).size 3);conv=>whnf
 refine Triple.use (exactly_ok rb ws _ headWords (by decide) _ hat3.at_) (by exact⟨rfl,⟨rfl,rfl⟩,trivial⟩) ?_
 rintro o S' ⟨rfl,rfl⟩;have hat4:=hat3.words (ws':=(exactG ws headWords).1);unfold fixG
 by_cases he:(exactG ws headWords).2=0
 ·simp only[errAV,if_pos he];conv=>whnf
  exact⟨_,_,⟨rfl,t,hat4⟩,St.le_refl _,AV.leS_refl _ _ _⟩
 ·simp only[errAV,if_neg he];conv=>whnf
  exact⟨_,_,⟨rfl,t,hat4⟩,St.le_refl _,AV.leS_refl _ _ _⟩
theorem output_ok{S₀ S:St}{rb:Nat}{ws:List ByteArray}{v:StepV}(h:Rdr S₀ S rb ws v) :
 Triple P (C G) 121 [.ref rb 0] S fun o S'=>o=.ret (errAV (fixG 8 outputWords ws v).1)∧Rdr S₀ S' rb (fixG 8 outputWords ws v).2.1 (fixG 8 outputWords ws v).2.2:=by
 obtain⟨t,hat⟩:=h;have hcs:=hat.at_;have hat2:=hat.set (v':={ v with kind:=8 }) (ws':=ws) rfl rfl rfl rfl;refine triple_of_awp (hT G) hm Tryz.func121 rfl (by decide +kernel) rfl (by decide +kernel) (by show 1≤_;decide +kernel) rfl ?_
 conv=>whnf
 refine⟨_,_,hcs,?_⟩;conv=>whnf
 intro bb hbb;have hat3:=hat2.more hbb (.tip 9 ((C G).T 9).size 1);conv=>whnf
 refine Triple.use (exactly_ok rb ws _ outputWords (by decide) _ hat3.at_) (by exact⟨rfl,⟨rfl,rfl⟩,trivial⟩) ?_
 rintro o S' ⟨rfl,rfl⟩;have hat4:=hat3.words (ws':=(exactG ws outputWords).1);unfold fixG
 by_cases he:(exactG ws outputWords).2=0
 ·simp only[errAV,if_pos he];conv=>whnf
  exact⟨_,_,⟨rfl,t,hat4⟩,St.le_refl _,AV.leS_refl _ _ _⟩
 ·simp only[errAV,if_neg he];conv=>whnf
  exact⟨_,_,⟨rfl,t,hat4⟩,St.le_refl _,AV.leS_refl _ _ _⟩
theorem last_ok{S₀ S:St}{rb:Nat}{ws:List ByteArray}{v:StepV}(h:Rdr S₀ S rb ws v) :
 Triple P (C G) 123 [.ref rb 0] S fun o S'=>o=.ret (errAV (fixG 10 lastWords ws v).1)∧Rdr S₀ S' rb (fixG 10 lastWords ws v).2.1 (fixG 10 lastWords ws v).2.2:=by
 obtain⟨t,hat⟩:=h;have hcs:=hat.at_;have hat2:=hat.set (v':={ v with kind:=10 }) (ws':=ws) rfl rfl rfl rfl;refine triple_of_awp (hT G) hm Tryz.func123 rfl (by decide +kernel) rfl (by decide +kernel) (by show 1≤_;decide +kernel) rfl ?_
 conv=>whnf
 refine⟨_,_,hcs,?_⟩;conv=>whnf
 intro bb hbb;have hat3:=hat2.more hbb (.tip 9 ((C G).T 9).size 2);conv=>whnf
 refine Triple.use (exactly_ok rb ws _ lastWords (by decide) _ hat3.at_) (by exact⟨rfl,⟨rfl,rfl⟩,trivial⟩) ?_
 rintro o S' ⟨rfl,rfl⟩;have hat4:=hat3.words (ws':=(exactG ws lastWords).1);unfold fixG
 by_cases he:(exactG ws lastWords).2=0
 ·simp only[errAV,if_pos he];conv=>whnf
  exact⟨_,_,⟨rfl,t,hat4⟩,St.le_refl _,AV.leS_refl _ _ _⟩
 ·simp only[errAV,if_neg he];conv=>whnf
  exact⟨_,_,⟨rfl,t,hat4⟩,St.le_refl _,AV.leS_refl _ _ _⟩
def noteG(ws:List ByteArray)(v:StepV):RetG:=(0,[],{ v with kind:=7 })
theorem note_ok{S₀ S:St}{rb:Nat}{ws:List ByteArray}{v:StepV}(h:Rdr S₀ S rb ws v) :
 Triple P (C G) 120 [.ref rb 0] S fun o S'=>o=.ret (errAV (noteG ws v).1)∧Rdr S₀ S' rb (noteG ws v).2.1 (noteG ws v).2.2:=by
 obtain⟨t,hat⟩:=h;have hcs:=hat.at_;have hn:Triple P (C G) 120 [.ref rb 0] S fun o S'=>o=.ret .nili∧S'=S.upd rb (.obj 164 (.nils::stepC { v with kind:=7 } t)):=by
  refine triple_of_awp (hT G) hm Tryz.func120 rfl (by decide +kernel) rfl (by decide +kernel) (by show 1≤_;decide +kernel) rfl ?_
  conv=>whnf
  refine⟨_,_,hcs,?_⟩;conv=>whnf
  refine⟨_,_,St.upd_same _ _ _,?_⟩;conv=>whnf
  refine⟨_,_,⟨rfl,rfl⟩,?_,AV.leS_refl _ _ _⟩;rw[St.upd_upd];exact St.le_refl _
 refine Triple.lessW hn ?_;rintro o S' ⟨rfl,rfl⟩;refine⟨_,⟨rfl,t,hat.set (v':={ v with kind:=7 }) (ws':=[]) rfl rfl rfl rfl⟩,?_⟩;have:=St.leW_upd (cs':=.sl .any 1 (rowsS [])::stepC { v with kind:=7 } t) (St.upd_same S rb (.obj 164 (.nils::stepC { v with kind:=7 } t))) ⟨rfl,leL_refl _⟩
 rwa [St.upd_upd] at this
end Go.Proofs.YtogipknpafkfpaaGreatDoor.Aw

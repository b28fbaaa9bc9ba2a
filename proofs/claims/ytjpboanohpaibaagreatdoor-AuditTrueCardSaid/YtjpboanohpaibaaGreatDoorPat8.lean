/- Package big, walked: Parse, whole. Package big, walked: next, end, limb, joined. Package big, walked: joined. Package bi -/
import Derived.Test.YtjpboanohpaibaaGreatDoorPat7
set_option linter.all false
set_option maxRecDepth 100000
namespace Go.Proofs.YtjpboanohpaibaaGreatDoor.Aw
open Go Go.RowKit
variable {G:Nat→Option (List AV)}
theorem decV_snoc(l:List UInt8)(c:UInt8):decV (l++[c])=10*decV l+(c.toNat-48):=by simp[decV]
theorem decV_append(a b:List UInt8):decV (a++b)=decV a*10 ^ b.length+decV b:=by
 have:∀ r:List UInt8,decV (a++r.reverse)=decV a*10 ^ r.reverse.length+decV r.reverse:=by
  intro r
  induction r with
  | nil=>simp[decV]
  | cons c r ih=>
    rw[List.reverse_cons,← List.append_assoc,decV_snoc,decV_snoc,ih,List.length_append,List.length_singleton,Nat.pow_succ];rw[Nat.mul_add,← Nat.mul_assoc,Nat.mul_comm 10 (decV a),Nat.mul_assoc (decV a) 10,Nat.mul_comm 10 (10 ^ _)];omega
 simpa using this b.reverse
theorem decV_lt(l:List UInt8)(h:l.all digitB=true):decV l<10 ^ l.length:=by
 have:∀ r:List UInt8,r.reverse.all digitB=true→decV r.reverse<10 ^ r.reverse.length:=by
  intro r
  induction r with
  | nil=>intro _;decide
  | cons c r ih=>
    intro hr;rw[List.reverse_cons] at hr ⊢;rw[List.all_append,Bool.and_eq_true] at hr;have:=ih hr.1;have hc:digitB c=true:=by simpa using hr.2
    unfold digitB at hc;simp only[Bool.and_eq_true,decide_eq_true_eq] at hc;rw[decV_snoc,List.length_append,List.length_singleton,Nat.pow_succ];omega
 simpa using this l.reverse (by simpa using h)
theorem chunk_step{d:List UInt8}{k:Nat}{l:List Nat}(hl:l.length=k)(h:decV d=decV (d.take (d.length-9*k))*1000000000 ^ k+valL l)(hk:9*k<d.length) :
 decV d=decV (d.take (d.length-9*(k+1)))*1000000000 ^ (k+1)+valL (l++[decV ((d.take (d.length-9*k)).drop (d.length-9*k-9))]):=by
 rw[valL_append,hl];simp only[valL];have e:=decV_append ((d.take (d.length-9*k)).take (d.length-9*k-9)) ((d.take (d.length-9*k)).drop (d.length-9*k-9));rw[List.take_append_drop,List.take_take,show min (d.length-9*k-9) (d.length-9*k)=d.length-9*(k+1) by omega] at e
 rw[h,e];generalize decV ((d.take (d.length-9*k)).drop (d.length-9*k-9))=x;have hx:decV (d.take (d.length-9*(k+1)))*10 ^ ((d.take (d.length-9*k)).drop (d.length-9*k-9)).length=decV (d.take (d.length-9*(k+1)))*1000000000:=by
  by_cases h9:9≤d.length-9*k
  ·rw[List.length_drop,List.length_take,show min (d.length-9*k) d.length-(d.length-9*k-9)=9 by omega]
  ·rw[show d.length-9*(k+1)=0 by omega];simp[decV]
 rw[hx,Nat.pow_succ];generalize decV (d.take (d.length-9*(k+1)))=y;generalize (1000000000:Nat) ^ k=p;rw[Nat.add_mul,Nat.mul_zero,Nat.add_zero,Nat.mul_assoc,Nat.mul_comm 1000000000 p,Nat.mul_comm x p];omega
theorem str_nil{d:List UInt8}:(⟨d.toArray⟩:ByteArray)=⟨#[]⟩↔d=[]:=by
 constructor
 ·intro h;have:d.toArray=#[]:=congrArg ByteArray.data h
  simpa using this
 ·rintro rfl;rfl
theorem str_eq{s:ByteArray}{l:List UInt8}:s=⟨l.toArray⟩↔s.data.toList=l:=by
 constructor
 ·rintro rfl;simp
 ·rintro rfl;obtain⟨⟨x⟩⟩:=s;rfl
theorem byte_head{d:List UInt8}(h:d≠[]):byteAt ⟨d.toArray⟩ 0=((d.head h).toNat:Int):=by
 cases d with
 | nil=>exact absurd rfl h
 | cons c r=>simp[byteAt]
theorem extract_list(d:List UInt8)(a b:Nat):(⟨d.toArray⟩:ByteArray).extract a b=⟨((d.take b).drop a).toArray⟩:=by
 rw[str_eq];have h:=Lib.extract_toList ⟨d.toArray⟩ a b;have e:∀ s:ByteArray,s.toList=s.data.toList:=fun s=>by obtain⟨⟨l⟩⟩:=s;simp[ByteArray.toList_eq]
 rw[e] at h;rw[h]
 simp[List.drop_take]
set_option maxHeartbeats 2000000 in
theorem Parse_ok(s:ByteArray)(hs:s.size≤1000000000)(S:St):Triple P (C G) 183 [.str s] S fun o S'=>
 o=.ret (.tu [bigAV ((parseI s.data.toList).getD 0),.int .i64 (if (parseI s.data.toList).isSome then 0 else 10)])∧S'=S:=by
 refine triple_of_awp (hT G) hm Tryz.func183 rfl (by decide +kernel) rfl (by decide +kernel) (by show 1≤_;decide +kernel) rfl ?_
 refine awp_seq2 fun K hK hQ=>?_
 conv=>whnf
 intro rb hrb;conv=>whnf
 refine hK _ _ ?_;clear hK hQ K;refine awp_seq2 fun K hK hQ=>?_
 conv=>whnf
 refine(CutPrefix_ok s _ _).mono ?_;rintro o S' ⟨rfl,rfl⟩;conv=>whnf
 refine hK _ _ ?_;clear hK hQ K;generalize hd:Lib.trimPrefix s.data.toList [45]=d at *;generalize hneg:Lib.hasPrefix s.data.toList [45]=neg at *;have hdl:d.length≤1000000000:=by
  have h1:s.data.toList.length=s.size:=by rw[Array.length_toList];rfl
  rw[← hd];unfold Lib.trimPrefix;split<;>simp[h1]<;>omega
 refine awp_seq2 fun K hK hQ=>?_
 refine awp_seq2 fun K1 hK1 hQ1=>?_
 conv=>whnf
 refine split_of (fun h0=>?_) (fun h0=>?_)
 ·have h0:d=[]:=str_nil.1 (of_decide_eq_true h0)
  conv=>whnf
  refine hK1 _ _ ?_;clear hK1 hQ1 K1;refine awp_cond rfl (fun _=>?_) (fun hh=>by cases hh)
  have hnone:parseI s.data.toList=none:=by
   unfold parseI;rw[hd];exact if_pos (.inl h0)
  conv=>whnf
  refine⟨_,_,St.upd_same _ _ _,?_⟩;conv=>whnf
  refine hQ _ _ _ (by simp) ?_
  conv=>whnf
  refine⟨_,_,St.upd_same _ _ _,?_⟩;conv=>whnf
  refine⟨_,_,⟨rfl,rfl⟩,by rw[St.upd_upd];exact St.le_upd' (St.le_refl _) hrb _,?_⟩
  rw[hnone,Option.getD_none,bigAV_near (by decide)]
  exact AV.leS_refl _ _ _
 ·have h0:d≠[]:=fun e=>absurd (str_nil.2 e) (of_decide_eq_false h0)
  conv=>whnf
  refine⟨⟨by omega,by rw[size_list];have:=List.length_pos_iff.2 h0;omega⟩,?_⟩
  conv=>whnf
  have hhd:d.head? = some (d.head h0):=List.head?_eq_some_head h0
  have hbt:byteAt ⟨d.toArray⟩ (Int.toNat 0)=((d.head h0).toNat:Int):=byte_head h0
  refine split_of (fun h48=>?_) (fun h48=>?_)
  ·have h48:d.head? = some 48:=by
    rw[hbt] at h48;have:(d.head h0).toNat=48:=by have:=of_decide_eq_true h48;omega
    rw[hhd];exact congrArg some (UInt8.toNat_inj.1 this)
   conv=>whnf
   refine split_of (fun hs0=>?_) (fun hs0=>?_)
   ·have hs0:s.data.toList≠[48]:=fun e=>by
     have:=(str_eq (s:=s) (l:=[48])).2 e
     simp[this] at hs0
    conv=>whnf
    refine hK1 _ _ ?_;clear hK1 hQ1 K1;refine awp_cond rfl (fun _=>?_) (fun hh=>by cases hh)
    have hnone:parseI s.data.toList=none:=by
     unfold parseI;rw[hd];exact if_pos (.inr (.inl ⟨h48,hs0⟩))
    conv=>whnf
    refine⟨_,_,St.upd_same _ _ _,?_⟩;conv=>whnf
    refine hQ _ _ _ (by simp) ?_
    conv=>whnf
    refine⟨_,_,St.upd_same _ _ _,?_⟩;conv=>whnf
    refine⟨_,_,⟨rfl,rfl⟩,by rw[St.upd_upd];exact St.le_upd' (St.le_refl _) hrb _,?_⟩
    rw[hnone,Option.getD_none,bigAV_near (by decide)]
    exact AV.leS_refl _ _ _
   ·have hs0:s.data.toList=[48]:=by
     rw[← str_eq (s:=s) (l:=[48])]
     simpa using hs0
    conv=>whnf
    refine(ContainsFunc_ok (p:=noDigit) Parse1_ok _ _).mono ?_;rintro o S' ⟨rfl,rfl⟩;rw[idx_all];conv=>whnf
    refine hK1 _ _ ?_;clear hK1 hQ1 K1;refine awp_cond rfl (fun hall=>?_) (fun hall=>?_)
    ·have hall:d.all digitB=false:=by simpa using hall
     have hnone:parseI s.data.toList=none:=by
      unfold parseI;rw[hd];exact if_pos (.inr (.inr hall))
     conv=>whnf
     refine⟨_,_,St.upd_same _ _ _,?_⟩;conv=>whnf
     refine hQ _ _ _ (by simp) ?_
     conv=>whnf
     refine⟨_,_,St.upd_same _ _ _,?_⟩;conv=>whnf
     refine⟨_,_,⟨rfl,rfl⟩,by rw[St.upd_upd];exact St.le_upd' (St.le_refl _) hrb _,?_⟩
     rw[hnone,Option.getD_none,bigAV_near (by decide)]
     exact AV.leS_refl _ _ _
    ·have hall:d.all digitB=true:=by simpa using hall
     have hsome:parseI s.data.toList=some (if neg=true then -(decV d:Int) else (decV d:Int)):=by
      unfold parseI;rw[hd,hneg];exact if_neg (fun hh=>hh.elim h0 (fun hh=>hh.elim (fun hh=>hh.2 hs0) (fun hh=>by rw[hall] at hh;cases hh)))
     conv=>whnf
     refine hK _ _ ?_;clear hK hQ K;refine awp_seq2 fun K hK hQ=>?_
     conv=>whnf
     refine hK _ _ ?_;clear hK hQ K;refine awp_seq2 fun K hK hQ=>?_
     conv=>whnf
     refine⟨⟨Nat×List Nat×Nat,fun(k,l,bb)=>[(2,.ref rb 0),(4,.str ⟨d.toArray⟩),(5,.bool neg),(6,.sl (.acc bb) 1 (rowsU l)),(7,.int .i64 ((d.length:Int)-9*(k:Int)))],
      fun(k,l,bb) S'=>AccOk (S.upd rb (.obj 237 [AV.int IntKind.i64 0,AV.bool false,AV.nils])) S' 213 1 bb l.length∧l.length=k∧decV d=decV (d.take (d.length-9*k))*1000000000 ^ k+valL l∧(∀ x∈l,x<1000000000)∧9*k≤d.length+8,
      fun(k,_,_)=>d.length+9-9*k⟩,⟨(0,[],0),⟨rfl,rfl,rfl,rfl,congrArg (AV.int .i64) (show(((⟨d.toArray⟩:ByteArray).size:Nat):Int)=(d.length:Int)-9*((0:Nat):Int) by rw[size_list];omega),trivial⟩,_,St.leW_refl _,AccOk.init ..,rfl,by simp[valL],by simp,by omega⟩,?_⟩
     rintro⟨(k:Nat),(l:List Nat),(bb:Nat)⟩ S₁ ⟨h1,h2,h3,h4,h5⟩;conv=>whnf
     refine split_of (fun hlt=>?_) (fun hlt=>?_)
     ·have hlt:9*k<d.length:=by have:=of_decide_eq_true hlt;omega
      have hfr:(if (0:Int) > IntKind.i64.wrap ((d.length:Int)-9*(k:Int)-9) then 0 else IntKind.i64.wrap ((d.length:Int)-9*(k:Int)-9))=((d.length-9*k-9:Nat):Int):=by
       rw[wrap_i64 (by omega) (by omega)];split<;>omega
      conv=>whnf
      refine⟨⟨by show(0:Int)≤ite _ _ _;rw[hfr];omega,by show ite _ _ _≤_;rw[hfr];omega,by rw[size_list];omega⟩,?_⟩
      conv=>whnf
      intro it hit;conv=>whnf
      generalize hch:(d.take (d.length-9*k)).drop (d.length-9*k-9)=ch at *;have hext:(⟨d.toArray⟩:ByteArray).extract (if (0:Int) > IntKind.i64.wrap ((d.length:Int)-9*(k:Int)-9) then 0 else IntKind.i64.wrap ((d.length:Int)-9*(k:Int)-9)).toNat ((d.length:Int)-9*(k:Int)).toNat=⟨ch.toArray⟩:=by
       rw[hfr,extract_list,← hch];congr 4<;>omega
      have hc9:ch.length≤9:=by rw[← hch,List.length_drop,List.length_take];omega
      have hcd:ch.all digitB=true:=by
       rw[List.all_eq_true] at hall ⊢;intro x hx;rw[← hch] at hx;exact hall x (List.mem_of_mem_take (List.mem_of_mem_drop hx))
      refine⟨⟨Nat,fun pos=>[(2,.ref rb 0),(4,.str ⟨d.toArray⟩),(5,.bool neg),(6,.sl (.acc bb) 1 (rowsU l)),(7,.int .i64 ((d.length:Int)-9*(k:Int))),(8,.int .u32 ((decV (ch.take pos):Nat):Int)),(44,.ref it 0)],
       fun pos S'=>S'=S₁.upd it (.siter ⟨ch.toArray⟩ pos)∧pos≤ch.length,fun pos=>ch.length-pos⟩,
       ⟨0,⟨rfl,rfl,rfl,rfl,rfl,rfl,rfl,trivial⟩,_,St.leW_refl _,congrArg (fun x=>S₁.upd it (.siter x 0)) hext,by omega⟩,?_⟩
      rintro(pos:Nat) S₂ ⟨rfl,hpos⟩;conv=>whnf
      refine⟨_,_,St.upd_same _ _ _,?_⟩;conv=>whnf
      refine split_of (fun hlp=>?_) (fun hlp=>?_)
      ·have hlp:pos<ch.length:=by simpa [size_list] using hlp
       have hsz:pos<(⟨ch.toArray⟩:ByteArray).size:=by rw[size_list];exact hlp
       have hdig:digitB ch[pos]=true:=List.all_eq_true.1 hcd _ (List.getElem_mem hlp)
       have hdg:48≤ch[pos].toNat∧ch[pos].toNat≤57:=by unfold digitB at hdig;simpa using hdig
       have hdec:Utf8.decode ⟨ch.toArray⟩ pos=(ch[pos].toNat,1):=decode_ascii ⟨ch.toArray⟩ pos hsz (show ch[pos].toNat<128 by omega)
       rw[hdec];have hx8:decV (ch.take pos)<100000000:=Nat.lt_of_lt_of_le (decV_lt _ (by rw[List.all_eq_true] at hcd ⊢;exact fun x hx=>hcd x (List.mem_of_mem_take hx))) (Nat.le_trans (Nat.pow_le_pow_right (by omega) (show _≤8 by rw[List.length_take];omega)) (by decide))
       have hstep:decV (ch.take (pos+1))=10*decV (ch.take pos)+(ch[pos].toNat-48):=by rw[← decV_snoc,List.take_append_getElem]
       have hval:IntKind.u32.wrap (IntKind.u32.wrap (10*((decV (ch.take pos):Nat):Int))+IntKind.u32.wrap (IntKind.i32.wrap ((ch[pos].toNat:Int)-48)))=((decV (ch.take (pos+1)):Nat):Int):=by
        rw[hstep,IntKind.wrap_u32,IntKind.wrap_u32,IntKind.wrap_u32,show IntKind.i32.wrap ((ch[pos].toNat:Int)-48)=(ch[pos].toNat:Int)-48 by rw[IntKind.wrap_i32];omega];omega
       conv=>whnf
       exact⟨pos+1,⟨rfl,rfl,rfl,rfl,rfl,congrArg (AV.int .u32) hval,rfl,trivial⟩,⟨_,St.leW_refl _,by rw[St.upd_upd],by omega⟩,by show ch.length-(pos+1)<ch.length-pos;omega⟩
      ·have hlp:pos=ch.length:=by
        have:¬ pos<ch.length:=by simpa [size_list] using hlp
        omega
       subst hlp;conv=>whnf
       intro b0 hb0;conv=>whnf
       have h1':=(h1.other hit (.siter ⟨ch.toArray⟩ ch.length)).other hb0 (.tip 213 1 1)
       refine⟨⟨fun h=>by have:=h1'.tip (List.length_pos_iff.2 (fun e=>h (by rw[e];rfl)));rw[rowsU_len];exact this,by show _*4≤_;simp;omega⟩,?_⟩
       conv=>whnf
       intro S₂ k1 k2 b' hb';conv=>whnf
       have hcl:=chunk_step h2 h3 hlt
       rw[hch] at hcl;have hcv:decV ch<1000000000:=Nat.lt_of_lt_of_le (decV_lt _ hcd) (Nat.le_trans (Nat.pow_le_pow_right (by omega) hc9) (by decide))
       refine⟨(k+1,l++[decV ch],b'),⟨rfl,rfl,rfl,congrArg _ (show rowsU l++[[AV.int .u32 ((decV (ch.take ch.length):Nat):Int)]]=rowsU (l++[decV ch]) by rw[List.take_length,rowsU_snoc]),congrArg (AV.int .i64) (show IntKind.i64.wrap ((d.length:Int)-9*(k:Int)-9)=(d.length:Int)-9*((k+1:Nat):Int) by rw[wrap_i64 (by omega) (by omega)];omega),trivial⟩,
        ⟨_,St.leW_refl _,h1'.push (es:=rowsU l) (by simp) k1 k2 hb' (by simp),by simp[h2],hcl,?_,by omega⟩,by show d.length+9-9*(k+1)<d.length+9-9*k;omega⟩
       intro x hx
       rcases List.mem_append.1 hx with hx | hx
       ·exact h4 x hx
       ·simp at hx;omega
     ·have hlt:d.length≤9*k:=by have:=of_decide_eq_false hlt;omega
      have hv:valL l=decV d:=by rw[h3,show d.length-9*k=0 by omega];simp[decV]
      conv=>whnf
      refine hK _ _ ?_;clear hK hQ K;conv=>whnf
      refine Triple.use (made_ok neg l h4 (by omega) _) (by exact⟨⟨rfl,rfl⟩,rfl,trivial⟩) ?_
      rintro o S' ⟨rfl,rfl⟩;rw[hv];generalize hz:(if neg=true then -(decV d:Int) else (decV d:Int))=z at *;have hfin:∀ (x:AV) (T:St),x=bigAV z→AV.leS T S (.tu [x,.int .i64 0]) (.tu [bigAV ((parseI s.data.toList).getD 0),.int .i64 (if (parseI s.data.toList).isSome=true then 0 else 10)]):=by
       rintro x T rfl;rw[hsome];exact AV.leS_refl _ _ _
      by_cases hzn:near z
      ·rw[bigAV_near hzn];conv=>whnf
       refine⟨_,_,h1.le _ _ (St.upd_same _ _ _),?_⟩;conv=>whnf
       refine⟨_,_,St.upd_same _ _ _,?_⟩;conv=>whnf
       exact⟨_,_,⟨rfl,rfl⟩,St.le_upd (St.le_trans (St.le_upd' (St.le_refl _) hrb _) h1.le) hrb _,hfin _ _ (bigAV_near hzn).symm⟩
      ·rw[bigAV_far hzn];conv=>whnf
       refine⟨_,_,h1.le _ _ (St.upd_same _ _ _),?_⟩;conv=>whnf
       refine⟨_,_,St.upd_same _ _ _,?_⟩;conv=>whnf
       exact⟨_,_,⟨rfl,rfl⟩,St.le_upd (St.le_trans (St.le_upd' (St.le_refl _) hrb _) h1.le) hrb _,hfin _ _ (bigAV_far hzn).symm⟩
  ·have h48:¬ d.head? = some 48:=fun e=>by
    rw[hbt] at h48;rw[hhd] at e;have:(d.head h0)=48:=Option.some.inj e;rw[this] at h48;cases h48
   conv=>whnf
   refine(ContainsFunc_ok (p:=noDigit) Parse1_ok _ _).mono ?_;rintro o S' ⟨rfl,rfl⟩;rw[idx_all];conv=>whnf
   refine hK1 _ _ ?_;clear hK1 hQ1 K1;refine awp_cond rfl (fun hall=>?_) (fun hall=>?_)
   ·have hall:d.all digitB=false:=by simpa using hall
    have hnone:parseI s.data.toList=none:=by
     unfold parseI;rw[hd];exact if_pos (.inr (.inr hall))
    conv=>whnf
    refine⟨_,_,St.upd_same _ _ _,?_⟩;conv=>whnf
    refine hQ _ _ _ (by simp) ?_
    conv=>whnf
    refine⟨_,_,St.upd_same _ _ _,?_⟩;conv=>whnf
    refine⟨_,_,⟨rfl,rfl⟩,by rw[St.upd_upd];exact St.le_upd' (St.le_refl _) hrb _,?_⟩
    rw[hnone,Option.getD_none,bigAV_near (by decide)]
    exact AV.leS_refl _ _ _
   ·have hall:d.all digitB=true:=by simpa using hall
    have hsome:parseI s.data.toList=some (if neg=true then -(decV d:Int) else (decV d:Int)):=by
     unfold parseI;rw[hd,hneg];exact if_neg (fun hh=>hh.elim h0 (fun hh=>hh.elim (fun hh=>h48 hh.1) (fun hh=>by rw[hall] at hh;cases hh)))
    conv=>whnf
    refine hK _ _ ?_;clear hK hQ K;refine awp_seq2 fun K hK hQ=>?_
    conv=>whnf
    refine hK _ _ ?_;clear hK hQ K;refine awp_seq2 fun K hK hQ=>?_
    conv=>whnf
    refine⟨⟨Nat×List Nat×Nat,fun(k,l,bb)=>[(2,.ref rb 0),(4,.str ⟨d.toArray⟩),(5,.bool neg),(6,.sl (.acc bb) 1 (rowsU l)),(7,.int .i64 ((d.length:Int)-9*(k:Int)))],
     fun(k,l,bb) S'=>AccOk (S.upd rb (.obj 237 [AV.int IntKind.i64 0,AV.bool false,AV.nils])) S' 213 1 bb l.length∧l.length=k∧decV d=decV (d.take (d.length-9*k))*1000000000 ^ k+valL l∧(∀ x∈l,x<1000000000)∧9*k≤d.length+8,
     fun(k,_,_)=>d.length+9-9*k⟩,⟨(0,[],0),⟨rfl,rfl,rfl,rfl,congrArg (AV.int .i64) (show(((⟨d.toArray⟩:ByteArray).size:Nat):Int)=(d.length:Int)-9*((0:Nat):Int) by rw[size_list];omega),trivial⟩,_,St.leW_refl _,AccOk.init ..,rfl,by simp[valL],by simp,by omega⟩,?_⟩
    rintro⟨(k:Nat),(l:List Nat),(bb:Nat)⟩ S₁ ⟨h1,h2,h3,h4,h5⟩;conv=>whnf
    refine split_of (fun hlt=>?_) (fun hlt=>?_)
    ·have hlt:9*k<d.length:=by have:=of_decide_eq_true hlt;omega
     have hfr:(if (0:Int) > IntKind.i64.wrap ((d.length:Int)-9*(k:Int)-9) then 0 else IntKind.i64.wrap ((d.length:Int)-9*(k:Int)-9))=((d.length-9*k-9:Nat):Int):=by
      rw[wrap_i64 (by omega) (by omega)];split<;>omega
     conv=>whnf
     refine⟨⟨by show(0:Int)≤ite _ _ _;rw[hfr];omega,by show ite _ _ _≤_;rw[hfr];omega,by rw[size_list];omega⟩,?_⟩
     conv=>whnf
     intro it hit;conv=>whnf
     generalize hch:(d.take (d.length-9*k)).drop (d.length-9*k-9)=ch at *;have hext:(⟨d.toArray⟩:ByteArray).extract (if (0:Int) > IntKind.i64.wrap ((d.length:Int)-9*(k:Int)-9) then 0 else IntKind.i64.wrap ((d.length:Int)-9*(k:Int)-9)).toNat ((d.length:Int)-9*(k:Int)).toNat=⟨ch.toArray⟩:=by
      rw[hfr,extract_list,← hch];congr 4<;>omega
     have hc9:ch.length≤9:=by rw[← hch,List.length_drop,List.length_take];omega
     have hcd:ch.all digitB=true:=by
      rw[List.all_eq_true] at hall ⊢;intro x hx;rw[← hch] at hx;exact hall x (List.mem_of_mem_take (List.mem_of_mem_drop hx))
     refine⟨⟨Nat,fun pos=>[(2,.ref rb 0),(4,.str ⟨d.toArray⟩),(5,.bool neg),(6,.sl (.acc bb) 1 (rowsU l)),(7,.int .i64 ((d.length:Int)-9*(k:Int))),(8,.int .u32 ((decV (ch.take pos):Nat):Int)),(44,.ref it 0)],
      fun pos S'=>S'=S₁.upd it (.siter ⟨ch.toArray⟩ pos)∧pos≤ch.length,fun pos=>ch.length-pos⟩,
      ⟨0,⟨rfl,rfl,rfl,rfl,rfl,rfl,rfl,trivial⟩,_,St.leW_refl _,congrArg (fun x=>S₁.upd it (.siter x 0)) hext,by omega⟩,?_⟩
     rintro(pos:Nat) S₂ ⟨rfl,hpos⟩;conv=>whnf
     refine⟨_,_,St.upd_same _ _ _,?_⟩;conv=>whnf
     refine split_of (fun hlp=>?_) (fun hlp=>?_)
     ·have hlp:pos<ch.length:=by simpa [size_list] using hlp
      have hsz:pos<(⟨ch.toArray⟩:ByteArray).size:=by rw[size_list];exact hlp
      have hdig:digitB ch[pos]=true:=List.all_eq_true.1 hcd _ (List.getElem_mem hlp)
      have hdg:48≤ch[pos].toNat∧ch[pos].toNat≤57:=by unfold digitB at hdig;simpa using hdig
      have hdec:Utf8.decode ⟨ch.toArray⟩ pos=(ch[pos].toNat,1):=decode_ascii ⟨ch.toArray⟩ pos hsz (show ch[pos].toNat<128 by omega)
      rw[hdec];have hx8:decV (ch.take pos)<100000000:=Nat.lt_of_lt_of_le (decV_lt _ (by rw[List.all_eq_true] at hcd ⊢;exact fun x hx=>hcd x (List.mem_of_mem_take hx))) (Nat.le_trans (Nat.pow_le_pow_right (by omega) (show _≤8 by rw[List.length_take];omega)) (by decide))
      have hstep:decV (ch.take (pos+1))=10*decV (ch.take pos)+(ch[pos].toNat-48):=by rw[← decV_snoc,List.take_append_getElem]
      have hval:IntKind.u32.wrap (IntKind.u32.wrap (10*((decV (ch.take pos):Nat):Int))+IntKind.u32.wrap (IntKind.i32.wrap ((ch[pos].toNat:Int)-48)))=((decV (ch.take (pos+1)):Nat):Int):=by
       rw[hstep,IntKind.wrap_u32,IntKind.wrap_u32,IntKind.wrap_u32,show IntKind.i32.wrap ((ch[pos].toNat:Int)-48)=(ch[pos].toNat:Int)-48 by rw[IntKind.wrap_i32];omega];omega
      conv=>whnf
      exact⟨pos+1,⟨rfl,rfl,rfl,rfl,rfl,congrArg (AV.int .u32) hval,rfl,trivial⟩,⟨_,St.leW_refl _,by rw[St.upd_upd],by omega⟩,by show ch.length-(pos+1)<ch.length-pos;omega⟩
     ·have hlp:pos=ch.length:=by
       have:¬ pos<ch.length:=by simpa [size_list] using hlp
       omega
      subst hlp;conv=>whnf
      intro b0 hb0;conv=>whnf
      have h1':=(h1.other hit (.siter ⟨ch.toArray⟩ ch.length)).other hb0 (.tip 213 1 1)
      refine⟨⟨fun h=>by have:=h1'.tip (List.length_pos_iff.2 (fun e=>h (by rw[e];rfl)));rw[rowsU_len];exact this,by show _*4≤_;simp;omega⟩,?_⟩
      conv=>whnf
      intro S₂ k1 k2 b' hb';conv=>whnf
      have hcl:=chunk_step h2 h3 hlt
      rw[hch] at hcl;have hcv:decV ch<1000000000:=Nat.lt_of_lt_of_le (decV_lt _ hcd) (Nat.le_trans (Nat.pow_le_pow_right (by omega) hc9) (by decide))
      refine⟨(k+1,l++[decV ch],b'),⟨rfl,rfl,rfl,congrArg _ (show rowsU l++[[AV.int .u32 ((decV (ch.take ch.length):Nat):Int)]]=rowsU (l++[decV ch]) by rw[List.take_length,rowsU_snoc]),congrArg (AV.int .i64) (show IntKind.i64.wrap ((d.length:Int)-9*(k:Int)-9)=(d.length:Int)-9*((k+1:Nat):Int) by rw[wrap_i64 (by omega) (by omega)];omega),trivial⟩,
       ⟨_,St.leW_refl _,h1'.push (es:=rowsU l) (by simp) k1 k2 hb' (by simp),by simp[h2],hcl,?_,by omega⟩,by show d.length+9-9*(k+1)<d.length+9-9*k;omega⟩
      intro x hx
      rcases List.mem_append.1 hx with hx | hx
      ·exact h4 x hx
      ·simp at hx;omega
    ·have hlt:d.length≤9*k:=by have:=of_decide_eq_false hlt;omega
     have hv:valL l=decV d:=by rw[h3,show d.length-9*k=0 by omega];simp[decV]
     conv=>whnf
     refine hK _ _ ?_;clear hK hQ K;conv=>whnf
     refine Triple.use (made_ok neg l h4 (by omega) _) (by exact⟨⟨rfl,rfl⟩,rfl,trivial⟩) ?_
     rintro o S' ⟨rfl,rfl⟩;rw[hv];generalize hz:(if neg=true then -(decV d:Int) else (decV d:Int))=z at *;have hfin:∀ (x:AV) (T:St),x=bigAV z→AV.leS T S (.tu [x,.int .i64 0]) (.tu [bigAV ((parseI s.data.toList).getD 0),.int .i64 (if (parseI s.data.toList).isSome=true then 0 else 10)]):=by
      rintro x T rfl;rw[hsome];exact AV.leS_refl _ _ _
     by_cases hzn:near z
     ·rw[bigAV_near hzn];conv=>whnf
      refine⟨_,_,h1.le _ _ (St.upd_same _ _ _),?_⟩;conv=>whnf
      refine⟨_,_,St.upd_same _ _ _,?_⟩;conv=>whnf
      exact⟨_,_,⟨rfl,rfl⟩,St.le_upd (St.le_trans (St.le_upd' (St.le_refl _) hrb _) h1.le) hrb _,hfin _ _ (bigAV_near hzn).symm⟩
     ·rw[bigAV_far hzn];conv=>whnf
      refine⟨_,_,h1.le _ _ (St.upd_same _ _ _),?_⟩;conv=>whnf
      refine⟨_,_,St.upd_same _ _ _,?_⟩;conv=>whnf
      exact⟨_,_,⟨rfl,rfl⟩,St.le_upd (St.le_trans (St.le_upd' (St.le_refl _) hrb _) h1.le) hrb _,hfin _ _ (bigAV_far hzn).symm⟩
structure CarOk (S₀:St) (b:Nat) (l:List Nat) (c:Int) (bb:Nat) (S:St):Prop where
 le:St.le S₀ S
 nb:S₀ b=none
 at_:S b=some (.obj 286 [.sl (.acc bb) 1 (rowsU l),.int .i64 c])
 tip:l≠[]→S bb=some (.tip 213 1 l.length)
 nbb:l≠[]→S₀ bb=none
theorem CarOk.ne{S₀:St}{b:Nat}{l:List Nat}{c:Int}{bb:Nat}{S:St}(h:CarOk S₀ b l c bb S)(hl:l≠[]):bb≠b:=fun e=>by
 have h1:=h.tip hl;rw[e,h.at_] at h1;cases h1
theorem CarOk.carry{S₀:St}{b:Nat}{l:List Nat}{c:Int}{bb:Nat}{S:St}(h:CarOk S₀ b l c bb S)(c':Int):CarOk S₀ b l c' bb (S.upd b (.obj 286 [.sl (.acc bb) 1 (rowsU l),.int .i64 c'])):=
 ⟨St.le_upd h.le h.nb _,h.nb,St.upd_same _ _ _,fun hl=>St.ov (h.ne hl) (h.tip hl),h.nbb⟩
theorem CarOk.other{S₀:St}{b:Nat}{l:List Nat}{c:Int}{bb:Nat}{S:St}(h:CarOk S₀ b l c bb S){b0:Nat}(hb:S b0=none)(o:Own):CarOk S₀ b l c bb (S.upd b0 o):=
 ⟨St.le_upd' h.le hb o,h.nb,St.up hb h.at_,fun hl=>St.up hb (h.tip hl),h.nbb⟩
theorem CarOk.push{S₀:St}{b:Nat}{l:List Nat}{c:Int}{bb:Nat}{S:St}(h:CarOk S₀ b l c bb S){S₂:St}(k1:rowsU l=[]→S₂=S)(k2:rowsU l≠[]→S₂=S.del bb){b':Nat}(hb:S₂ b'=none)(d:Nat){n:Nat}(hn:n=l.length+1) :
 CarOk S₀ b (l++[d]) c b' ((S₂.upd b' (.tip 213 1 n)).upd b (.obj 286 [.sl (.acc b') 1 (rowsU (l++[d])),.int .i64 c])):=by
 subst hn;have hle:St.le S₀ S₂:=by
  by_cases he:l=[]
  ·rw[k1 (by rw[he];rfl)];exact h.le
  ·rw[k2 (rowsU_ne he)];exact St.le_del h.le (h.nbb he)
 have hS₂b:S₂ b=some (.obj 286 [.sl (.acc bb) 1 (rowsU l),.int .i64 c]):=by
  by_cases he:l=[]
  ·rw[k1 (by rw[he];rfl)];exact h.at_
  ·rw[k2 (rowsU_ne he)];exact(St.del_ne _ _ _ (h.ne he).symm).trans h.at_
 have hne:b'≠b:=St.ne_of' hb hS₂b
 exact⟨St.le_upd (St.le_upd' hle hb _) h.nb _,h.nb,St.upd_same _ _ _,fun _=>St.ov hne (by rw[St.upd_same];simp),fun _=>St.le_none hle hb⟩
theorem CarOk.pushAt{S₀:St}{b:Nat}{l:List Nat}{c:Int}{bb:Nat}{S:St}(h:CarOk S₀ b l c bb S){S₂:St}(k1:rowsU l=[]→S₂=S)(k2:rowsU l≠[]→S₂=S.del bb){b':Nat}(hb:S₂ b'=none)(o:Own) :
 (S₂.upd b' o) b=some (.obj 286 [.sl (.acc bb) 1 (rowsU l),.int .i64 c]):=by
 refine St.up hb ?_
 by_cases he:l=[]
 ·rw[k1 (by rw[he];rfl)];exact h.at_
 ·rw[k2 (rowsU_ne he)];exact(St.del_ne _ _ _ (h.ne he).symm).trans h.at_
theorem tdiv_ten(y:Int):y=1000000000*y.tdiv 1000000000+y.tmod 1000000000∧-1000000000<y.tmod 1000000000∧y.tmod 1000000000<1000000000:=by
 refine⟨(Int.mul_tdiv_add_tmod y 1000000000).symm,?_,Int.tmod_lt_of_pos _ (by decide)⟩
 by_cases h:y<0
 ·have:=Int.neg_tmod (a:=y) (b:=1000000000)
  have h2:=Int.tmod_lt_of_pos (-y) (b:=1000000000) (by decide)
  omega
 ·have:=Int.tmod_nonneg (b:=1000000000) (a:=y) (by omega)
  omega
set_option maxHeartbeats 1000000 in
theorem next_ok{S₀:St}{b:Nat}{l:List Nat}{c:Int}{bb:Nat}{S:St}(h:CarOk S₀ b l c bb S)(hl:l.length≤1000000000)(x:Int)(h0:-4611686018427387904<x+c)(h1:x+c<4611686018427387904) :
 Triple P (C G) 227 [.ref b 0,.int .i64 x] S fun o S'=>o=.ret (.tu [])∧∃ b',CarOk S₀ b (l++[((x+c) % 1000000000).toNat]) ((x+c) / 1000000000) b' S':=by
 refine triple_of_awp (hT G) hm Tryz.func227 rfl (by decide +kernel) rfl (by decide +kernel) (by show 2≤_;decide +kernel) rfl ?_
 conv=>whnf
 refine⟨_,_,h.at_,?_⟩;conv=>whnf
 refine⟨by decide,?_⟩
 conv=>whnf
 refine⟨_,_,h.at_,?_⟩;conv=>whnf
 have h2:=h.carry (IntKind.i64.wrap ((IntKind.i64.wrap (x+c)).tdiv 1000000000))
 have e1:IntKind.i64.wrap (x+c)=x+c:=wrap_i64 (by omega) (by omega)
 obtain⟨hy,hy1,hy2⟩:=tdiv_ten (x+c);refine⟨by decide,?_⟩
 conv=>whnf
 rw[e1] at h2 ⊢;generalize (x+c).tdiv 1000000000=q at *;generalize (x+c).tmod 1000000000=r at *;generalize hyy:x+c=y at *;have e2:IntKind.i64.wrap q=q:=wrap_i64 (by omega) (by omega)
 rw[e2] at h2 ⊢;refine split_of (fun hr=>?_) (fun hr=>?_)
 ·have hr:r<0:=of_decide_eq_true hr
  conv=>whnf
  refine⟨_,_,h2.at_,?_⟩;conv=>whnf
  refine⟨_,_,h2.at_,?_⟩;conv=>whnf
  have h3:=h2.carry (IntKind.i64.wrap (q-1))
  have e3:IntKind.i64.wrap (q-1)=q-1:=wrap_i64 (by omega) (by omega)
  have e4:IntKind.i64.wrap (r+1000000000)=r+1000000000:=wrap_i64 (by omega) (by omega)
  rw[e3] at h3 ⊢;rw[e4];refine⟨_,_,h3.at_,?_⟩;conv=>whnf
  intro b0 hb0;conv=>whnf
  have h4:=h3.other hb0 (.tip 213 1 1)
  refine⟨⟨fun hne=>by have:=h4.tip (fun e=>hne (by rw[e];rfl));rw[rowsU_len];exact this,by show _*4≤_;simp;omega⟩,?_⟩
  conv=>whnf
  intro S₂ k1 k2 b' hb';conv=>whnf
  refine⟨_,_,h4.pushAt k1 k2 hb' _,?_⟩;conv=>whnf
  refine⟨_,_,⟨rfl,b',?_⟩,St.le_refl _,AV.leS_refl _ _ _⟩;have h5:=h4.push k1 k2 hb' (y % 1000000000).toNat (by simp:(rowsU l).length+[[AV.int .u32 (IntKind.u32.wrap (r+1000000000))]].length=l.length+1)
  rw[show rowsU l++[[AV.int .u32 (IntKind.u32.wrap (r+1000000000))]]=rowsU (l++[(y % 1000000000).toNat]) by rw[← rowsU_snoc];congr 4;rw[IntKind.wrap_u32];omega]
  rw[show q-1=y / 1000000000 by omega] at h5 ⊢
  exact h5
 ·have hr:¬ r<0:=of_decide_eq_false hr
  have h3:=h2
  conv=>whnf
  refine⟨_,_,h3.at_,?_⟩;conv=>whnf
  intro b0 hb0;conv=>whnf
  have h4:=h3.other hb0 (.tip 213 1 1)
  refine⟨⟨fun hne=>by have:=h4.tip (fun e=>hne (by rw[e];rfl));rw[rowsU_len];exact this,by show _*4≤_;simp;omega⟩,?_⟩
  conv=>whnf
  intro S₂ k1 k2 b' hb';conv=>whnf
  refine⟨_,_,h4.pushAt k1 k2 hb' _,?_⟩;conv=>whnf
  refine⟨_,_,⟨rfl,b',?_⟩,St.le_refl _,AV.leS_refl _ _ _⟩;have h5:=h4.push k1 k2 hb' (y % 1000000000).toNat (by simp:(rowsU l).length+[[AV.int .u32 (IntKind.u32.wrap r)]].length=l.length+1)
  rw[show rowsU l++[[AV.int .u32 (IntKind.u32.wrap r)]]=rowsU (l++[(y % 1000000000).toNat]) by rw[← rowsU_snoc];congr 4;rw[IntKind.wrap_u32];omega]
  rw[show q=y / 1000000000 by omega] at h5 ⊢
  exact h5
theorem limb_ok(l:List Nat)(hd:∀ d∈l,d<1000000000)(hl:l.length≤1000000000)(i:Nat)(S:St):Triple P (C G) 230 [.sl .any 1 (rowsU l),.int .i64 (i:Int)] S fun o S'=>o=.ret (.int .i64 ((l.getD i 0:Nat):Int))∧S'=S:=by
 refine triple_of_awp (hT G) hm Tryz.func230 rfl (by decide +kernel) rfl (by decide +kernel) (by show 2≤_;decide +kernel) rfl ?_
 conv=>whnf
 intro _;conv=>whnf
 refine split_of (fun h=>?_) (fun h=>?_)
 ·have h:i<l.length:=by have:=of_decide_eq_true h;rw[rowsU_len] at this;omega
  conv=>whnf
  refine⟨[.int .u32 ((l[i]:Nat):Int)],⟨by omega,by simp[rowsU,h]⟩,?_⟩
  conv=>whnf
  have hdd:=hd _ (List.getElem_mem h)
  refine⟨_,_,⟨rfl,rfl⟩,St.le_refl _,?_⟩;rw[wrap_i64 (by omega) (by omega),show l.getD i 0=l[i] by simp[List.getD,h]]
  exact AV.leS_refl _ _ _
 ·have h:l.length≤i:=by have:=of_decide_eq_false h;rw[rowsU_len] at this;omega
  conv=>whnf
  refine⟨_,_,⟨rfl,rfl⟩,St.le_refl _,?_⟩;rw[show l.getD i 0=0 by simp[List.getD,h]]
  exact AV.leS_refl _ _ _
theorem end_awp{S₀:St}{b:Nat}{l:List Nat}{c:Nat}{bb:Nat}{S:St}(h:CarOk S₀ b l (c:Int) bb S)(hl:l.length≤100000000)(hc:c<4611686018427387904) :
 TripleD P (C G) 229 [.ref b 0] S fun o S'=>o=.ret (.tu [])∧∃ b',CarOk S₀ b (l++limbs c) 0 b' S':=by
 have hlen:(limbs c).length≤3:=limbs_len 3 _ (by omega)
 refine tripleD_of_awp (hT G) hm Tryz.func229 rfl (by decide +kernel) rfl (by decide +kernel) (by decide +kernel) (by show 1≤_;decide +kernel) rfl ?_
 conv=>whnf
 refine⟨⟨Nat×List Nat×Nat,fun(c',l',bb')=>[(0,.ref b 0)],fun(c',l',bb') S'=>CarOk S₀ b l' (c':Int) bb' S'∧l'++limbs c'=l++limbs c∧c'≤c,fun(c',_,_)=>c'⟩,
  ⟨(c,l,bb),⟨rfl,trivial⟩,_,St.leW_refl _,h,rfl,Nat.le_refl _⟩,?_⟩
 rintro⟨(c':Nat),(l':List Nat),(bb':Nat)⟩ S₁ ⟨h1,h2,h3⟩;have hl':l'.length≤l.length+3:=by have:=congrArg List.length h2;simp at this;omega
 conv=>whnf
 refine⟨_,_,h1.at_,?_⟩;conv=>whnf
 refine split_of (fun hp=>?_) (fun hp=>?_)
 ·have hp:0<c':=by simpa using hp
  conv=>whnf
  refine(next_ok h1 (by omega) 0 (by omega) (by omega)).mono ?_
  rintro o S' ⟨rfl,b',h5⟩;conv=>whnf
  rw[show((0+(c':Int)) % 1000000000).toNat=c' % 1000000000 by omega,show(0+(c':Int)) / 1000000000=((c' / 1000000000:Nat):Int) by omega] at h5
  exact⟨(c' / 1000000000,l'++[c' % 1000000000],b'),⟨rfl,trivial⟩,⟨_,St.leW_refl _,h5,by rw[← h2,limbs_pos hp];simp,by omega⟩,by show c' / 1000000000<c';omega⟩
 ·have hp:c'=0:=by simpa using hp
  subst hp;conv=>whnf
  have h2:l'=l++limbs c:=by simpa [limbs_zero] using h2
  subst h2;exact⟨_,_,⟨rfl,bb',h1⟩,St.le_refl _,AV.leS_refl _ _ _⟩
def joL(f:Nat→Int):Nat→List Nat×Int
 | 0=>([],0)
 | n+1=>((joL f n).1++[((f n+(joL f n).2) % 1000000000).toNat],(f n+(joL f n).2) / 1000000000)
def joF(a b:List Nat)(s:Int)(i:Nat):Int:=((a.getD i 0:Nat):Int)+s*((b.getD i 0:Nat):Int)
def joG(a b:List Nat)(s:Int):List Nat:=
 (joL (joF a b s) (max a.length b.length)).1++limbs (joL (joF a b s) (max a.length b.length)).2.toNat
theorem joL_len(f:Nat→Int):∀ n,(joL f n).1.length=n
 | 0=>rfl
 | n+1=>by simp[joL,joL_len f n]
theorem joF_bnd{a b:List Nat}(ha:∀ d∈a,d<1000000000)(hb:∀ d∈b,d<1000000000){s:Int}(hs:s=1∨s=-1)(i:Nat):-1000000000<joF a b s i∧joF a b s i≤1999999998:=by
 have h1:∀ l:List Nat,(∀ d∈l,d<1000000000)→l.getD i 0<1000000000:=fun l hl=>by
  by_cases h:i<l.length
  ·rw[show l.getD i 0=l[i] by simp[List.getD,h]];exact hl _ (List.getElem_mem h)
  ·rw[show l.getD i 0=0 by simp[List.getD,Nat.le_of_not_lt h]];decide
 have:=h1 a ha
 have:=h1 b hb
 unfold joF
 rcases hs with rfl | rfl<;>omega
theorem joL_bnd{f:Nat→Int}(hf:∀ i,-1000000000<f i∧f i≤1999999998):∀ n,-1≤(joL f n).2∧(joL f n).2≤1
 | 0=>by simp[joL]
 | n+1=>by
   have:=joL_bnd hf n
   have:=hf n
   simp only[joL];omega
theorem joL_dig(f:Nat→Int):∀ n,∀ d∈(joL f n).1,d<1000000000
 | 0=>by simp[joL]
 | n+1=>by
   intro d hd;simp only[joL,List.mem_append,List.mem_singleton] at hd
   rcases hd with hd | rfl
   ·exact joL_dig f n d hd
   ·omega
theorem joG_dig(a b:List Nat)(s:Int):∀ d∈joG a b s,d<1000000000:=fun d hd=>by
 rcases List.mem_append.1 hd with hd | hd
 ·exact joL_dig _ _ d hd
 ·exact limbs_lt _ d hd
def sumF(f:Nat→Int):Nat→Int
 | 0=>0
 | n+1=>sumF f n+1000000000 ^ n*f n
theorem joL_val(f:Nat→Int):∀ n,(valL (joL f n).1:Int)+1000000000 ^ n*(joL f n).2=sumF f n
 | 0=>by simp[joL,valL,sumF]
 | n+1=>by
   simp only[joL,sumF,valL_append,joL_len,valL];rw[← joL_val f n];generalize (joL f n).2=c;generalize f n=x;have h1:((((x+c) % 1000000000).toNat:Nat):Int)=(x+c) % 1000000000:=by omega
   have h2:(x+c) % 1000000000+1000000000*((x+c) / 1000000000)=x+c:=Int.emod_add_mul_ediv _ _
   have h4:(((1000000000:Nat):Int))=(1000000000:Int):=rfl
   rw[Nat.mul_zero,Nat.add_zero,Int.natCast_add,Int.natCast_mul,Int.natCast_pow,h1,Int.pow_succ,h4];generalize (1000000000:Int) ^ n=p;have h3:p*((x+c) % 1000000000)+p*1000000000*((x+c) / 1000000000)=p*(x+c):=by
    rw[Int.mul_assoc,← Int.mul_add,h2]
   rw[Int.mul_add] at h3;omega
theorem sumF_valL(l:List Nat):∀ n,sumF (fun i=>((l.getD i 0:Nat):Int)) n=(valL (l.take n):Int)
 | 0=>by simp[sumF,valL]
 | n+1=>by
   simp only[sumF];rw[sumF_valL l n]
   by_cases h:n<l.length
   ·rw[show l.take (n+1)=l.take n++[l[n]] by simp[List.take_append_getElem],valL_append,List.length_take,show min n l.length=n by omega,show l.getD n 0=l[n] by simp[List.getD,h]]
    simp only[valL];have h4:(((1000000000:Nat):Int))=(1000000000:Int):=rfl;rw[Nat.mul_zero,Nat.add_zero,Int.natCast_add,Int.natCast_mul,Int.natCast_pow,h4]
   ·rw[show l.getD n 0=0 by simp[List.getD,Nat.le_of_not_lt h],List.take_of_length_le (by omega),List.take_of_length_le (by omega)];simp
theorem sumF_lin(f g:Nat→Int)(s:Int):∀ n,sumF (fun i=>f i+s*g i) n=sumF f n+s*sumF g n
 | 0=>by simp[sumF]
 | n+1=>by
   simp only[sumF];rw[sumF_lin f g s n,Int.mul_add,Int.mul_add,← Int.mul_assoc,← Int.mul_assoc,Int.mul_comm s (1000000000 ^ n)];omega
theorem joG_val{a b:List Nat}{s:Int}(ha:∀ d∈a,d<1000000000)(h:0≤(valL a:Int)+s*(valL b:Int)):(valL (joG a b s):Int)=(valL a:Int)+s*(valL b:Int)∧0≤(joL (joF a b s) (max a.length b.length)).2:=by
 have hv:=joL_val (joF a b s) (max a.length b.length)
 have hs:sumF (joF a b s) (max a.length b.length)=(valL a:Int)+s*(valL b:Int):=by
  show sumF (fun i=>((a.getD i 0:Nat):Int)+s*((b.getD i 0:Nat):Int)) _=_
  rw[sumF_lin,sumF_valL,sumF_valL,List.take_of_length_le (by omega),List.take_of_length_le (by omega)]
 rw[hs] at hv;have hlt:valL (joL (joF a b s) (max a.length b.length)).1<1000000000 ^ (max a.length b.length):=by
  have:=topV_lt (joL_dig (joF a b s) (max a.length b.length)) _ (Nat.le_refl _)
  rwa [topV_all,joL_len] at this
 unfold joG;rw[valL_append,valL_limbs,joL_len];generalize (joL (joF a b s) (max a.length b.length)).2=c at *;generalize valL (joL (joF a b s) (max a.length b.length)).1=v at *;generalize max a.length b.length=n at *;have h4:(((1000000000:Nat):Int))=(1000000000:Int):=rfl;have hlt':(v:Int)<1000000000 ^ n:=by rw[← h4,← Int.natCast_pow];omega
 have hc:0≤c:=by
  by_cases hc:0≤c
  ·exact hc
  ·have h5:(1000000000:Int) ^ n*c≤1000000000 ^ n*(-1):=Int.mul_le_mul_of_nonneg_left (by omega) (by rw[← h4,← Int.natCast_pow];omega)
   omega
 refine⟨?_,hc⟩;rw[Int.natCast_add,Int.natCast_mul,Int.natCast_pow,h4,Int.toNat_of_nonneg hc];exact hv
theorem joined1_ok{S₀:St}{bc b7 b3 b4 b8 b5 bb:Nat}{a b:List Nat}{s:Int}{S:St}(ha:∀ d∈a,d<1000000000)(hb:∀ d∈b,d<1000000000)(hs:s=1∨s=-1)(hal:a.length≤10000000)(hbl:b.length≤10000000)(hv:0≤(valL a:Int)+s*(valL b:Int))
 (h7:S₀ b7=some (.obj 284 [.ref bc 0])) (h3:S₀ b3=some (.obj 235 [.sl .any 1 (rowsU a)])) (h4:S₀ b4=some (.obj 235 [.sl .any 1 (rowsU b)]))
 (h8:S₀ b8=some (.obj 287 [.fn (.func 227) [.ref bc 0] []])) (h5:S₀ b5=some (.obj 2 [.int .i64 s])) (hc:CarOk S₀ bc [] 0 bb S) :
 Triple P (C G) 228 [.ref b7 0,.ref b3 0,.ref b4 0,.ref b8 0,.ref b5 0] S fun o S'=>o=.ret (.tu [])∧∃ b',CarOk S₀ bc (joG a b s) 0 b' S':=by
 refine triple_of_defer (hT G) hm Tryz.func228 rfl (by decide +kernel) rfl (by decide +kernel) (by decide +kernel) (by show 5≤_;decide +kernel) rfl 1 rfl rfl rfl rfl rfl ?_
 conv=>whnf
 refine⟨_,_,hc.le _ _ h7,?_⟩;conv=>whnf
 refine⟨_,rfl,?_⟩;conv=>whnf
 refine⟨_,_,hc.le _ _ h3,?_⟩;conv=>whnf
 intro _;conv=>whnf
 refine⟨_,_,hc.le _ _ h4,?_⟩;conv=>whnf
 intro _;conv=>whnf
 have hmax:(if (((rowsU b).length:Int)) > ((rowsU a).length:Int) then ((rowsU b).length:Int) else ((rowsU a).length:Int))=((max a.length b.length:Nat):Int):=by
  rw[rowsU_len,rowsU_len];split<;>omega
 generalize hn:max a.length b.length=n at *;refine⟨⟨Nat,fun i=>[(0,.ref b7 0),(1,.ref b3 0),(2,.ref b4 0),(3,.ref b8 0),(4,.ref b5 0),(11,.int .i64 (n:Int)),(12,.int .i64 (i:Int))],
  fun i S'=>∃ bb',CarOk S₀ bc (joL (joF a b s) i).1 (joL (joF a b s) i).2 bb' S'∧i≤n,fun i=>n-i⟩,
  ⟨0,⟨rfl,rfl,rfl,rfl,rfl,congrArg (AV.int .i64) hmax,rfl,trivial⟩,_,St.leW_refl _,bb,hc,by omega⟩,?_⟩
 rintro(i:Nat) S₁ ⟨bb',h1,hi⟩;have hcb:=joL_bnd (joF_bnd ha hb hs) i;have hfb:=joF_bnd ha hb hs i;conv=>whnf
 refine split_of (fun hlt=>?_) (fun hlt=>?_)
 ·have hlt:i<n:=by have:=of_decide_eq_true hlt;omega
  conv=>whnf
  refine⟨[3,7],(.free 0 (.free 1 (.free 2 (.free 3 (.free 4 (.free 5 (.free 6 (.free 7 (.free 8 (.free 9 (.one 10 .done .none))))))))))),_,by decide +kernel,?_,fun _ _ h=>⟨_,.inl rfl,h⟩⟩
  conv=>whnf
  refine⟨_,_,h1.le _ _ h8,?_⟩;conv=>whnf
  refine⟨_,_,h1.le _ _ h3,?_⟩;conv=>whnf
  refine⟨.int .i64 ((a.getD i 0:Nat):Int),(limb_ok a ha (by omega) i S₁).mono ?_,?_⟩
  ·rintro o S' ⟨rfl,rfl⟩;exact⟨rfl,rfl⟩
  conv=>whnf
  refine⟨_,_,h1.le _ _ h5,?_⟩;conv=>whnf
  refine⟨_,_,h1.le _ _ h4,?_⟩;conv=>whnf
  refine⟨.int .i64 ((b.getD i 0:Nat):Int),(limb_ok b hb (by omega) i S₁).mono ?_,?_⟩
  ·rintro o S' ⟨rfl,rfl⟩;exact⟨rfl,rfl⟩
  conv=>whnf
  have hx:IntKind.i64.wrap (((a.getD i 0:Nat):Int)+IntKind.i64.wrap (s*((b.getD i 0:Nat):Int)))=joF a b s i:=by
   have hla:a.getD i 0<1000000000:=by
    by_cases h:i<a.length
    ·rw[show a.getD i 0=a[i] by simp[List.getD,h]];exact ha _ (List.getElem_mem h)
    ·rw[show a.getD i 0=0 by simp[List.getD,Nat.le_of_not_lt h]];decide
   have hlb:b.getD i 0<1000000000:=by
    by_cases h:i<b.length
    ·rw[show b.getD i 0=b[i] by simp[List.getD,h]];exact hb _ (List.getElem_mem h)
    ·rw[show b.getD i 0=0 by simp[List.getD,Nat.le_of_not_lt h]];decide
   unfold joF
   rcases hs with rfl | rfl
   ·rw[wrap_i64 (n:=1*_) (by omega) (by omega),wrap_i64 (by omega) (by omega)]
   ·rw[wrap_i64 (n:=-1*_) (by omega) (by omega),wrap_i64 (by omega) (by omega)]
  rw[hx];refine(next_ok h1 (by rw[joL_len];omega) (joF a b s i) (by omega) (by omega)).mono ?_
  rintro o S' ⟨rfl,b',h2⟩;conv=>whnf
  have w1:IntKind.i64.wrap ((i:Int)+1)=((i+1:Nat):Int):=wrap_nat (by omega)
  exact⟨i+1,⟨rfl,rfl,rfl,rfl,rfl,rfl,congrArg _ w1,trivial⟩,⟨_,St.leW_refl _,b',h2,by omega⟩,by show n-(i+1)<n-i;omega⟩
 ·have hlt:i=n:=by have:=of_decide_eq_false hlt;omega
  subst hlt;conv=>whnf
  obtain⟨hval,hnn⟩:=joG_val (b:=b) (s:=s) ha hv;rw[hn] at hnn;obtain⟨c,hc2⟩:=Int.eq_ofNat_of_zero_le hnn;rw[hc2] at h1;refine(end_awp h1 (by rw[joL_len];omega) (by omega)).mono ?_
  rintro o S' ⟨rfl,b',h2⟩;refine⟨⟨_,rfl⟩,?_⟩;conv=>whnf
  refine⟨_,_,⟨rfl,b',?_⟩,St.le_refl _,AV.leS_refl _ _ _⟩;unfold joG;rw[hn,hc2];exact h2
theorem joined_ok{a b:List Nat}{s:Int}(ha:∀ d∈a,d<1000000000)(hb:∀ d∈b,d<1000000000)(hs:s=1∨s=-1)(hal:a.length≤10000000)(hbl:b.length≤10000000)(hv:0≤(valL a:Int)+s*(valL b:Int))(S:St) :
 Triple P (C G) 214 [.sl .any 1 (rowsU a),.sl .any 1 (rowsU b),.int .i64 s] S fun o S'=>o=.ret (.sl .any 1 (rowsU (joG a b s)))∧S'=S:=by
 refine triple_of_awp (hT G) hm Tryz.func214 rfl (by decide +kernel) rfl (by decide +kernel) (by show 3≤_;decide +kernel) rfl ?_
 refine awp_seq2 fun K hK hQ=>?_
 conv=>whnf
 intro b3 hb3;rw[forceL_eq];conv=>whnf
 intro b4 hb4;rw[forceL_eq];conv=>whnf
 intro b5 hb5;conv=>whnf
 refine hK _ _ ?_;clear hK hQ K;refine awp_seq2 fun K hK hQ=>?_
 conv=>whnf
 intro bc hbc;conv=>whnf
 intro b7 hb7;conv=>whnf
 refine⟨_,_,St.upd_same _ _ _,?_⟩;conv=>whnf
 refine hK _ _ ?_;clear hK hQ K;refine awp_seq2 fun K hK hQ=>?_
 conv=>whnf
 refine⟨_,_,St.upd_same _ _ _,?_⟩;conv=>whnf
 intro b8 hb8;conv=>whnf
 refine⟨_,_,St.upd_same _ _ _,?_⟩;conv=>whnf
 refine hK _ _ ?_;clear hK hQ K;refine awp_seq2 fun K hK hQ=>?_
 conv=>whnf
 have nc7:bc≠b7:=(St.ne_upd hb7).symm
 have nc8:bc≠b8:=(St.ne_upd (St.no (St.no hb8))).symm
 have hst:((((((((S.upd b3 (.obj 235 (cellsOf (.sl .any 1 (rowsU a))))).upd b4 (.obj 235 (cellsOf (.sl .any 1 (rowsU b))))).upd b5 (.obj 2 [.int .i64 s])).upd bc (.obj 286 [.nils,.int .i64 0])).upd b7 (.obj 284 [.nilp])).upd b7 (.obj 284 [.ref bc 0])).upd b8 (.obj 287 [.nilf])).upd b8 (.obj 287 [.fn (.func 227) [.ref bc 0] []])) =
  (((((S.upd b3 (.obj 235 [.sl .any 1 (rowsU a)])).upd b4 (.obj 235 [.sl .any 1 (rowsU b)])).upd b5 (.obj 2 [.int .i64 s])).upd b7 (.obj 284 [.ref bc 0])).upd b8 (.obj 287 [.fn (.func 227) [.ref bc 0] []])).upd bc (.obj 286 [.nils,.int .i64 0]):=by
  rw[St.upd_upd,St.upd_upd,St.upd_comm nc7,St.upd_comm nc8];rfl
 rw[hst];have f5:=St.no hbc;have g7:((S.upd b3 (.obj 235 [.sl .any 1 (rowsU a)])).upd b4 (.obj 235 [.sl .any 1 (rowsU b)])).upd b5 (.obj 2 [.int .i64 s]) b7=none:=St.no hb7;have g8:(((S.upd b3 (.obj 235 [.sl .any 1 (rowsU a)])).upd b4 (.obj 235 [.sl .any 1 (rowsU b)])).upd b5 (.obj 2 [.int .i64 s])).upd b7 (.obj 284 [.ref bc 0]) b8=none:=by
  have h1:=St.no (St.no (St.no hb8))
  exact(St.upd_ne _ _ _ _ (St.ne_upd (St.no hb8))).trans h1
 have gc:((((S.upd b3 (.obj 235 [.sl .any 1 (rowsU a)])).upd b4 (.obj 235 [.sl .any 1 (rowsU b)])).upd b5 (.obj 2 [.int .i64 s])).upd b7 (.obj 284 [.ref bc 0])).upd b8 (.obj 287 [.fn (.func 227) [.ref bc 0] []]) bc=none:=
  (St.upd_ne _ _ _ _ nc8).trans ((St.upd_ne _ _ _ _ nc7).trans hbc)
 have k3:((((S.upd b3 (.obj 235 [.sl .any 1 (rowsU a)])).upd b4 (.obj 235 [.sl .any 1 (rowsU b)])).upd b5 (.obj 2 [.int .i64 s])).upd b7 (.obj 284 [.ref bc 0])).upd b8 (.obj 287 [.fn (.func 227) [.ref bc 0] []]) b3=some (.obj 235 [.sl .any 1 (rowsU a)]):=St.up g8 (St.up g7 (St.up hb5 (St.up hb4 (St.upd_same _ _ _))))
 have k4:((((S.upd b3 (.obj 235 [.sl .any 1 (rowsU a)])).upd b4 (.obj 235 [.sl .any 1 (rowsU b)])).upd b5 (.obj 2 [.int .i64 s])).upd b7 (.obj 284 [.ref bc 0])).upd b8 (.obj 287 [.fn (.func 227) [.ref bc 0] []]) b4=some (.obj 235 [.sl .any 1 (rowsU b)]):=St.up g8 (St.up g7 (St.up hb5 (St.upd_same _ _ _)))
 have k5:((((S.upd b3 (.obj 235 [.sl .any 1 (rowsU a)])).upd b4 (.obj 235 [.sl .any 1 (rowsU b)])).upd b5 (.obj 2 [.int .i64 s])).upd b7 (.obj 284 [.ref bc 0])).upd b8 (.obj 287 [.fn (.func 227) [.ref bc 0] []]) b5=some (.obj 2 [.int .i64 s]):=St.up g8 (St.up g7 (St.upd_same _ _ _))
 have k7:((((S.upd b3 (.obj 235 [.sl .any 1 (rowsU a)])).upd b4 (.obj 235 [.sl .any 1 (rowsU b)])).upd b5 (.obj 2 [.int .i64 s])).upd b7 (.obj 284 [.ref bc 0])).upd b8 (.obj 287 [.fn (.func 227) [.ref bc 0] []]) b7=some (.obj 284 [.ref bc 0]):=St.up g8 (St.upd_same _ _ _)
 have k8:((((S.upd b3 (.obj 235 [.sl .any 1 (rowsU a)])).upd b4 (.obj 235 [.sl .any 1 (rowsU b)])).upd b5 (.obj 2 [.int .i64 s])).upd b7 (.obj 284 [.ref bc 0])).upd b8 (.obj 287 [.fn (.func 227) [.ref bc 0] []]) b8=some (.obj 287 [.fn (.func 227) [.ref bc 0] []]):=St.upd_same _ _ _
 have hle:St.le S (((((S.upd b3 (.obj 235 [.sl .any 1 (rowsU a)])).upd b4 (.obj 235 [.sl .any 1 (rowsU b)])).upd b5 (.obj 2 [.int .i64 s])).upd b7 (.obj 284 [.ref bc 0])).upd b8 (.obj 287 [.fn (.func 227) [.ref bc 0] []])):=St.le_upd' (St.le_upd' (St.le_upd' (St.le_upd' (St.le_upd' (St.le_refl _) hb3 _) hb4 _) hb5 _) g7 _) g8 _
 generalize ((((S.upd b3 (.obj 235 [.sl .any 1 (rowsU a)])).upd b4 (.obj 235 [.sl .any 1 (rowsU b)])).upd b5 (.obj 2 [.int .i64 s])).upd b7 (.obj 284 [.ref bc 0])).upd b8 (.obj 287 [.fn (.func 227) [.ref bc 0] []])=Sj at *;have hW:St.leW (Sj.upd bc (.obj 286 [.sl (.acc 0) 1 (rowsU []),.int .i64 0])) (Sj.upd bc (.obj 286 [.nils,.int .i64 0])):=by
  have:=St.leW_upd (cs':=[.sl (.acc 0) 1 (rowsU []),.int .i64 0]) (St.upd_same Sj bc (.obj 286 [.nils,.int .i64 0])) ⟨rfl,rfl,trivial⟩
  rwa [St.upd_upd] at this
 have hc0:CarOk Sj bc [] 0 0 (Sj.upd bc (.obj 286 [.sl (.acc 0) 1 (rowsU []),.int .i64 0])):=⟨St.le_upd' (St.le_refl _) gc _,gc,St.upd_same _ _ _,fun h=>absurd rfl h,fun h=>absurd rfl h⟩
 refine(Triple.weakS (joined1_ok ha hb hs hal hbl hv k7 k3 k4 k8 k5 hc0) hW).mono ?_;rintro o S' ⟨rfl,b',h2⟩;conv=>whnf
 refine hK _ _ ?_;clear hK hQ K;conv=>whnf
 refine⟨_,_,h2.le _ _ k7,?_⟩;conv=>whnf
 refine⟨_,_,h2.at_,?_⟩;conv=>whnf
 exact⟨_,_,⟨rfl,rfl⟩,St.le_trans hle h2.le,rfl,rfl⟩
theorem limbs_len_lo{n:Nat}(h:0<n):1000000000 ^ ((limbs n).length-1)≤n:=by
 by_cases h1:1000000000 ^ ((limbs n).length-1)≤n
 ·exact h1
 ·have:=limbs_len ((limbs n).length-1) n (by omega)
  have h3:(limbs n).length≠0:=fun h0=>limbs_ne h (List.eq_nil_of_length_eq_zero h0)
  omega
theorem limbs_longer{x y:Nat}(h:(limbs y).length<(limbs x).length):y<x:=by
 have hx:0<x:=by
  rcases Nat.eq_zero_or_pos x with h0 | h0
  ·subst h0;rw[limbs_zero] at h;simp at h
  ·exact h0
 have h1:=limbs_len_lo hx
 have h2:y<1000000000 ^ (limbs y).length:=by
  have:=topV_lt (limbs_lt y) _ (Nat.le_refl _)
  rwa [topV_all,valL_limbs] at this
 have:=Nat.pow_le_pow_right (n:=1000000000) (by decide) (show(limbs y).length≤(limbs x).length-1 by omega)
 omega
theorem valL_cmp{a b:List Nat}(ha:∀ d∈a,d<1000000000)(hb:∀ d∈b,d<1000000000)(hl:a.length=b.length){k:Nat}(hk:k<a.length)(he:a.drop (k+1)=b.drop (k+1))(hlt:a[k]<b[k]'(hl ▸ hk)):valL a<valL b:=by
 have e1:a=a.take k++(a[k]::a.drop (k+1)):=by rw[List.getElem_cons_drop hk,List.take_append_drop]
 have e2:b=b.take k++(b[k]::b.drop (k+1)):=by rw[List.getElem_cons_drop (hl ▸ hk),List.take_append_drop]
 rw[e1,e2,valL_append,valL_append];have h1:(a.take k).length=k:=by simp;omega
 have h2:(b.take k).length=k:=by simp;omega
 have h3:valL (a.take k)<1000000000 ^ k:=by
  have:=topV_lt (l:=a.take k) (fun d hd=>ha d (List.mem_of_mem_take hd)) _ (Nat.le_refl _)
  rwa [topV_all,h1] at this
 simp only[h1,h2,valL,he];generalize a[k]=p at *;have hk':k<b.length:=hl ▸ hk;generalize b[k]=q at *;generalize valL (b.drop (k+1))=r at *;have:1000000000 ^ k*(p+1+1000000000*r)≤1000000000 ^ k*(q+1000000000*r):=Nat.mul_le_mul_left _ (by omega)
 rw[show p+1+1000000000*r=(p+1000000000*r)+1 by omega,Nat.mul_add,Nat.mul_one] at this
 omega
theorem sizes_ok(x y:Nat)(hx:(limbs x).length≤100000000)(hy:(limbs y).length≤100000000)(S:St):Triple P (C G) 215 [.sl .any 1 (rowsU (limbs x)),.sl .any 1 (rowsU (limbs y))] S fun o S'=>∃ v:Int,o=.ret (.int .i64 v)∧(0≤v↔y≤x)∧S'=S:=by
 have hxv:=valL_limbs x
 have hyv:=valL_limbs y
 have hxd:=limbs_lt x
 have hyd:=limbs_lt y
 have hlo:(limbs y).length<(limbs x).length→y<x:=limbs_longer
 have hlo2:(limbs x).length<(limbs y).length→x<y:=limbs_longer
 generalize limbs x=a at *;generalize limbs y=b at *;refine triple_of_awp (hT G) hm Tryz.func215 rfl (by decide +kernel) rfl (by decide +kernel) (by show 2≤_;decide +kernel) rfl ?_
 conv=>whnf
 intro _;conv=>whnf
 intro _;conv=>whnf
 refine split_of (fun h=>?_) (fun h=>?_)
 ·have h:a.length≠b.length:=by
   intro hh;rw[rowsU_len,rowsU_len,hh] at h;simp at h
  conv=>whnf
  intro _;conv=>whnf
  intro _;conv=>whnf
  refine⟨_,_,⟨_,rfl,?_,rfl⟩,St.le_refl _,AV.leS_refl _ _ _⟩;rw[rowsU_len,rowsU_len,wrap_i64 (by omega) (by omega)]
  constructor
  ·intro h1;exact Nat.le_of_lt (hlo (by omega))
  ·intro h1;by_cases h2:a.length<b.length
   ·have:=hlo2 h2;omega
   ·omega
 ·have h:a.length=b.length:=by
   by_cases hh:a.length=b.length
   ·exact hh
   ·exfalso;rw[rowsU_len,rowsU_len] at h;simp at h;omega
  conv=>whnf
  intro _;conv=>whnf
  have hw0:IntKind.i64.wrap (((rowsU a).length:Int)-1)=(a.length:Int)-1:=by rw[rowsU_len,wrap_i64 (by omega) (by omega)]
  refine⟨⟨Nat,fun i=>[(0,.sl .any 1 (rowsU a)),(1,.sl .any 1 (rowsU b)),(5,.int .i64 ((i:Int)-1))],fun i S'=>S'=S∧i≤a.length∧a.drop i=b.drop i,fun i=>i⟩,
   ⟨a.length,⟨⟨rfl,rfl⟩,⟨rfl,rfl⟩,congrArg _ hw0,trivial⟩,_,St.leW_refl _,rfl,by omega,by rw[List.drop_of_length_le (by omega),List.drop_of_length_le (by omega)]⟩,?_⟩
  rintro(i:Nat) S' ⟨rfl,hi,he⟩;conv=>whnf
  refine split_of (fun hlt=>?_) (fun hlt=>?_)
  ·have hlt:1≤i:=by have:=of_decide_eq_true hlt;omega
   obtain⟨k,rfl⟩:∃ k,i=k+1:=⟨i-1,by omega⟩
   have hka:k<a.length:=by omega
   have hkb:k<b.length:=by omega
   have ek:(((k+1:Nat):Int)-1)=(k:Int):=by omega
   have ga:(rowsU a)[(((k+1:Nat):Int)-1).toNat]? = some [.int .u32 ((a[k]:Nat):Int)]:=by rw[ek];simp[rowsU,hka]
   have gb:(rowsU b)[(((k+1:Nat):Int)-1).toNat]? = some [.int .u32 ((b[k]:Nat):Int)]:=by rw[ek];simp[rowsU,hkb]
   conv=>whnf
   refine⟨[],(.free 0 (.free 1 (.free 2 (.free 3 (.free 4 (.free 5 (.free 6 (.free 7 (.free 8 .done))))))))),_,by decide +kernel,?_,fun _ _ h=>⟨_,.inl rfl,h⟩⟩
   conv=>whnf
   refine⟨_,⟨by omega,ga⟩,?_⟩
   conv=>whnf
   refine⟨_,⟨by omega,gb⟩,?_⟩
   conv=>whnf
   refine split_of (fun hne=>?_) (fun hne=>?_)
   ·have hne:a[k]≠b[k]:=by
     intro hh;rw[hh] at hne;simp at hne
    conv=>whnf
    refine⟨[],(.free 0 (.free 1 (.free 2 (.free 3 (.free 4 (.free 5 (.free 6 (.free 7 (.free 8 (.free 9 (.free 10 (.free 11 .done)))))))))))),_,by decide +kernel,?_,fun _ _ h=>⟨_,.inl rfl,h⟩⟩
    conv=>whnf
    refine⟨_,⟨by omega,ga⟩,?_⟩
    conv=>whnf
    refine⟨_,⟨by omega,gb⟩,?_⟩
    conv=>whnf
    refine⟨_,_,⟨_,rfl,?_,rfl⟩,St.le_refl _,AV.leS_refl _ _ _⟩;have h1:=hxd _ (List.getElem_mem hka);have h2:=hyd _ (List.getElem_mem hkb);rw[wrap_i64 (n:=((a[k]:Nat):Int)) (by omega) (by omega),wrap_i64 (n:=((b[k]:Nat):Int)) (by omega) (by omega),wrap_i64 (by omega) (by omega)]
    constructor
    ·intro h3;have:=valL_cmp hyd hxd h.symm hkb he.symm (by omega)
     omega
    ·intro h3
     by_cases h4:a[k]<b[k]
     ·have:=valL_cmp hxd hyd h hka he h4
      omega
     ·omega
   ·have hne:a[k]=b[k]:=by
     by_cases hh:a[k]=b[k]
     ·exact hh
     ·exfalso;simp at hne;omega
    conv=>whnf
    have w1:IntKind.i64.wrap ((((k+1:Nat):Int)-1)-1)=(k:Int)-1:=by rw[wrap_i64 (by omega) (by omega)];omega
    refine⟨k,⟨⟨rfl,rfl⟩,⟨rfl,rfl⟩,congrArg _ w1,trivial⟩,⟨_,St.leW_refl _,rfl,by omega,?_⟩,by show k<k+1;omega⟩
    rw[← List.getElem_cons_drop hka,← List.getElem_cons_drop hkb,hne,he]
  ·have hlt:i=0:=by have:=of_decide_eq_false hlt;omega
   subst hlt;conv=>whnf
   refine⟨_,_,⟨_,rfl,?_,rfl⟩,St.le_refl _,AV.leS_refl _ _ _⟩;have:a=b:=by simpa using he
   subst this
   constructor
   ·intro _;omega
   ·intro _;omega
def okZ(z:Int)(k:Nat):Prop:=(limbs z.natAbs).length≤k
theorem joG_len(a b:List Nat){s:Int}(ha:∀ d∈a,d<1000000000)(hb:∀ d∈b,d<1000000000)(hs:s=1∨s=-1):(joG a b s).length≤max a.length b.length+1:=by
 have h1:=joL_bnd (joF_bnd ha hb hs) (max a.length b.length)
 have h2:(limbs (joL (joF a b s) (max a.length b.length)).2.toNat).length≤1:=limbs_len 1 _ (by omega)
 unfold joG;rw[List.length_append,joL_len];omega
theorem bSign_neg(z:Int):decide (bSign z<0)=decide (z<0):=by
 unfold bSign
 by_cases h:z<0
 ·simp[h]
 ·rw[if_neg h];by_cases h0:z=0<;>simp[h,h0]
theorem Add_near(x y:Int)(hx:near x)(hy:near y)(S:St):Triple P (C G) 201 [nearAV x,nearAV y] S fun o S'=>o=.ret (bigAV (x+y))∧S'=S:=by
 refine triple_of_awp (hT G) hm Tryz.func201 rfl (by decide +kernel) rfl (by decide +kernel) (by show 2≤_;decide +kernel) rfl ?_
 refine awp_seq2 fun K hK hQ=>?_
 conv=>whnf
 intro b2 hb2;conv=>whnf
 intro b3 hb3;conv=>whnf
 intro b4 hb4;conv=>whnf
 refine hK _ _ ?_;clear hK hQ K;have k2:(((S.upd b2 (.obj 237 [.int .i64 x,.bool false,.nils])).upd b3 (.obj 237 [.int .i64 y,.bool false,.nils])).upd b4 (.obj 237 [.int .i64 0,.bool false,.nils])) b2=some (.obj 237 [.int .i64 x,.bool false,.nils]):=St.up hb4 (St.up hb3 (St.upd_same _ _ _));have k3:(((S.upd b2 (.obj 237 [.int .i64 x,.bool false,.nils])).upd b3 (.obj 237 [.int .i64 y,.bool false,.nils])).upd b4 (.obj 237 [.int .i64 0,.bool false,.nils])) b3=some (.obj 237 [.int .i64 y,.bool false,.nils]):=St.up hb4 (St.upd_same _ _ _);conv=>whnf
 refine⟨_,_,k2,?_⟩;conv=>whnf
 refine⟨_,_,k3,?_⟩;conv=>whnf
 refine⟨_,_,k2,?_⟩;conv=>whnf
 refine⟨_,_,k3,?_⟩;conv=>whnf
 unfold near at hx hy;have hw:IntKind.i64.wrap (x+y)=x+y:=wrap_i64 (by omega) (by omega)
 rw[hw];refine(Of_ok (x+y) (by omega) (by omega) _).mono ?_
 rintro o S' ⟨rfl,rfl⟩
 by_cases hz:near (x+y)
 ·rw[bigAV_near hz];conv=>whnf
  refine⟨_,_,St.upd_same _ _ _,?_⟩;conv=>whnf
  refine⟨_,_,St.upd_same _ _ _,?_⟩;conv=>whnf
  refine⟨_,_,⟨rfl,rfl⟩,?_,AV.leS_refl _ _ _⟩;rw[St.upd_upd];exact St.le_upd' (St.le_upd' (St.le_upd' (St.le_refl _) hb2 _) hb3 _) hb4 _
 ·rw[bigAV_far hz];conv=>whnf
  refine⟨_,_,St.upd_same _ _ _,?_⟩;conv=>whnf
  refine⟨_,_,St.upd_same _ _ _,?_⟩;conv=>whnf
  refine⟨_,_,⟨rfl,rfl⟩,?_,AV.leS_refl _ _ _⟩;rw[St.upd_upd];exact St.le_upd' (St.le_upd' (St.le_upd' (St.le_refl _) hb2 _) hb3 _) hb4 _
theorem Add_ff(x y:Int)(hx:¬ near x)(kx:okZ x 9000000)(ky:okZ y 9000000)(hy:¬ near y)(S:St):Triple P (C G) 201 [bigAV x,bigAV y] S fun o S'=>o=.ret (bigAV (x+y))∧S'=S:=by
 have sx:=fun S=>size_ok (G:=G) x S
 have sy:=fun S=>size_ok (G:=G) y S
 have gx:=fun S=>Sign_ok (G:=G) x S
 have gy:=fun S=>Sign_ok (G:=G) y S
 rw[bigAV_far hx] at *;rw[bigAV_far hy] at *;have nx:=far_pos hx;have ny:=far_pos hy;have lx:=limbs_ne (n:=x.natAbs) (by omega)
 have ly:=limbs_ne (n:=y.natAbs) (by omega)
 refine triple_of_awp (hT G) hm Tryz.func201 rfl (by decide +kernel) rfl (by decide +kernel) (by show 2≤_;decide +kernel) rfl ?_
 refine awp_seq2 fun K hK hQ=>?_
 conv=>whnf
 intro b2 hb2;conv=>whnf
 intro b3 hb3;conv=>whnf
 intro b4 hb4;conv=>whnf
 refine hK _ _ ?_;clear hK hQ K;have k2:(((S.upd b2 (.obj 237 [.int .i64 0,.bool (decide (x<0)),.sl .any 1 (rowsU (limbs x.natAbs))])).upd b3 (.obj 237 [.int .i64 0,.bool (decide (y<0)),.sl .any 1 (rowsU (limbs y.natAbs))])).upd b4 (.obj 237 [.int .i64 0,.bool false,.nils])) b2=some (.obj 237 [.int .i64 0,.bool (decide (x<0)),.sl .any 1 (rowsU (limbs x.natAbs))]):=St.up hb4 (St.up hb3 (St.upd_same _ _ _));have k3:(((S.upd b2 (.obj 237 [.int .i64 0,.bool (decide (x<0)),.sl .any 1 (rowsU (limbs x.natAbs))])).upd b3 (.obj 237 [.int .i64 0,.bool (decide (y<0)),.sl .any 1 (rowsU (limbs y.natAbs))])).upd b4 (.obj 237 [.int .i64 0,.bool false,.nils])) b3=some (.obj 237 [.int .i64 0,.bool (decide (y<0)),.sl .any 1 (rowsU (limbs y.natAbs))]):=St.up hb4 (St.upd_same _ _ _);refine awp_seq2 fun K hK hQ=>?_
 conv=>whnf
 refine⟨_,_,k2,?_⟩;conv=>whnf
 intro c hc;have hc:=hc (rowsU_ne lx);subst hc;conv=>whnf
 -- ,the numbers' cells;sx sy gx gy hx hy in sight
 refine hK _ _ ?_;clear hK hQ K;refine awp_seq2 fun K hK hQ=>?_
 conv=>whnf
 refine⟨[1,3],(.free 0 (.free 1 (.free 2 (.free 3 (.free 4 (.free 5 .done)))))),_,by decide +kernel,?_,fun _ _ h=>⟨_,.inl rfl,h⟩⟩
 conv=>whnf
 refine⟨_,_,k2,?_⟩;conv=>whnf
 refine⟨.sl .any 1 (rowsU (limbs x.natAbs)),(sx _).mono ?_,?_⟩
 ·rintro o S' ⟨rfl,rfl⟩;exact⟨rfl,rfl⟩
 conv=>whnf
 refine⟨_,_,k3,?_⟩;conv=>whnf
 refine⟨.sl .any 1 (rowsU (limbs y.natAbs)),(sy _).mono ?_,?_⟩
 ·rintro o S' ⟨rfl,rfl⟩;exact⟨rfl,rfl⟩
 conv=>whnf
 refine hK _ _ ?_;clear hK hQ K;refine awp_seq2 fun K hK hQ=>?_
 conv=>whnf
 refine⟨[1,4],(.free 0 (.free 1 (.free 2 (.free 3 (.free 4 (.free 5 (.free 6 (.free 7 .done)))))))),_,by decide +kernel,?_,fun _ _ h=>⟨_,.inl rfl,h⟩⟩
 conv=>whnf
 refine⟨_,_,k2,?_⟩;conv=>whnf
 refine⟨.int .i64 (bSign x),(gx _).mono ?_,?_⟩
 ·rintro o S' ⟨rfl,rfl⟩;exact⟨rfl,rfl⟩
 conv=>whnf
 refine⟨_,_,k3,?_⟩;conv=>whnf
 refine⟨.int .i64 (bSign y),(gy _).mono ?_,?_⟩
 ·rintro o S' ⟨rfl,rfl⟩;exact⟨rfl,rfl⟩
 conv=>whnf
 refine hK _ _ ?_;clear hK hQ K;rw[bSign_neg,bSign_neg];generalize hnx:decide (x<0)=nx at *;generalize hny:decide (y<0)=ny at *;have kx':(limbs x.natAbs).length≤10000000:=Nat.le_trans kx (by decide)
 have ky':(limbs y.natAbs).length≤10000000:=Nat.le_trans ky (by decide)
 have vx:=valL_limbs x.natAbs
 have vy:=valL_limbs y.natAbs
 conv=>whnf
 refine split_of (fun hsg=>?_) (fun hsg=>?_)
 ·conv=>whnf
  -- nx sign,joG (limbs x.natAbs) (limbs y.natAbs) 1 list
  refine(joined_ok (limbs_lt _) (limbs_lt _) (.inl rfl) (by assumption) (by assumption) (by omega) _).mono ?_
  rintro o S' ⟨rfl,rfl⟩;conv=>whnf
  have hlen:(joG (limbs x.natAbs) (limbs y.natAbs) 1).length≤1000000000:=by
   have:=joG_len (s:=1) (limbs x.natAbs) (limbs y.natAbs) (limbs_lt _) (limbs_lt _) (.inl rfl)
   omega
  refine(made_ok nx (joG (limbs x.natAbs) (limbs y.natAbs) 1) (joG_dig _ _ _) hlen _).mono ?_;rintro o S' ⟨rfl,rfl⟩;have hval:=(joG_val (a:=(limbs x.natAbs)) (b:=(limbs y.natAbs)) (s:=1) (limbs_lt _) (by omega)).1
  rw[valL_limbs,valL_limbs] at hval;have hsum:(if nx then -(valL (joG (limbs x.natAbs) (limbs y.natAbs) 1):Int) else (valL (joG (limbs x.natAbs) (limbs y.natAbs) 1):Int))=x+y:=by
   rw[hval];clear hval hlen;have f1:nx=true→x<0:=fun h=>of_decide_eq_true (hnx.trans h)
   have f2:nx=false→¬ x<0:=fun h=>of_decide_eq_false (hnx.trans h)
   have g1:ny=true→y<0:=fun h=>of_decide_eq_true (hny.trans h)
   have g2:ny=false→¬ y<0:=fun h=>of_decide_eq_false (hny.trans h)
   clear hnx hny
   cases nx<;>cases ny<;>first | (exact absurd hsg (by decide)) | (simp only[if_true,Bool.false_eq_true,if_false,true_implies,false_implies,reduceCtorEq] at f1 f2 g1 g2 ⊢;omega)
  rw[hsum]
  by_cases hz:near (x+y)
  ·rw[bigAV_near hz];conv=>whnf
   refine⟨_,_,St.upd_same _ _ _,?_⟩;conv=>whnf
   refine⟨_,_,St.upd_same _ _ _,?_⟩;conv=>whnf
   refine⟨_,_,⟨rfl,rfl⟩,?_,AV.leS_refl _ _ _⟩;rw[St.upd_upd];exact St.le_upd' (St.le_upd' (St.le_upd' (St.le_refl _) hb2 _) hb3 _) hb4 _
  ·rw[bigAV_far hz];conv=>whnf
   refine⟨_,_,St.upd_same _ _ _,?_⟩;conv=>whnf
   refine⟨_,_,St.upd_same _ _ _,?_⟩;conv=>whnf
   refine⟨_,_,⟨rfl,rfl⟩,?_,AV.leS_refl _ _ _⟩;rw[St.upd_upd];exact St.le_upd' (St.le_upd' (St.le_upd' (St.le_refl _) hb2 _) hb3 _) hb4 _
 ·conv=>whnf
  refine(sizes_ok x.natAbs y.natAbs (by omega) (by omega) _).mono ?_
  rintro o S' ⟨v,rfl,hv,rfl⟩;conv=>whnf
  refine split_of (fun hge=>?_) (fun hge=>?_)
  ·have hle:=hv.1 (of_decide_eq_true hge)
   conv=>whnf
   -- nx sign,joG (limbs x.natAbs) (limbs y.natAbs) (-1) list
   refine(joined_ok (limbs_lt _) (limbs_lt _) (.inr rfl) (by assumption) (by assumption) (by omega) _).mono ?_
   rintro o S' ⟨rfl,rfl⟩;conv=>whnf
   have hlen:(joG (limbs x.natAbs) (limbs y.natAbs) (-1)).length≤1000000000:=by
    have:=joG_len (s:=(-1)) (limbs x.natAbs) (limbs y.natAbs) (limbs_lt _) (limbs_lt _) (.inr rfl)
    omega
   refine(made_ok nx (joG (limbs x.natAbs) (limbs y.natAbs) (-1)) (joG_dig _ _ _) hlen _).mono ?_;rintro o S' ⟨rfl,rfl⟩;have hval:=(joG_val (a:=(limbs x.natAbs)) (b:=(limbs y.natAbs)) (s:=(-1)) (limbs_lt _) (by omega)).1
   rw[valL_limbs,valL_limbs] at hval;have hsum:(if nx then -(valL (joG (limbs x.natAbs) (limbs y.natAbs) (-1)):Int) else (valL (joG (limbs x.natAbs) (limbs y.natAbs) (-1)):Int))=x+y:=by
    rw[hval];clear hval hlen;have f1:nx=true→x<0:=fun h=>of_decide_eq_true (hnx.trans h)
    have f2:nx=false→¬ x<0:=fun h=>of_decide_eq_false (hnx.trans h)
    have g1:ny=true→y<0:=fun h=>of_decide_eq_true (hny.trans h)
    have g2:ny=false→¬ y<0:=fun h=>of_decide_eq_false (hny.trans h)
    clear hnx hny
    cases nx<;>cases ny<;>first | (exact absurd hsg (by decide)) | (simp only[if_true,Bool.false_eq_true,if_false,true_implies,false_implies,reduceCtorEq] at f1 f2 g1 g2 ⊢;omega)
   rw[hsum]
   by_cases hz:near (x+y)
   ·rw[bigAV_near hz];conv=>whnf
    refine⟨_,_,St.upd_same _ _ _,?_⟩;conv=>whnf
    refine⟨_,_,St.upd_same _ _ _,?_⟩;conv=>whnf
    refine⟨_,_,⟨rfl,rfl⟩,?_,AV.leS_refl _ _ _⟩;rw[St.upd_upd];exact St.le_upd' (St.le_upd' (St.le_upd' (St.le_refl _) hb2 _) hb3 _) hb4 _
   ·rw[bigAV_far hz];conv=>whnf
    refine⟨_,_,St.upd_same _ _ _,?_⟩;conv=>whnf
    refine⟨_,_,St.upd_same _ _ _,?_⟩;conv=>whnf
    refine⟨_,_,⟨rfl,rfl⟩,?_,AV.leS_refl _ _ _⟩;rw[St.upd_upd];exact St.le_upd' (St.le_upd' (St.le_upd' (St.le_refl _) hb2 _) hb3 _) hb4 _
  ·have hle:¬ y.natAbs≤x.natAbs:=fun h=>of_decide_eq_false hge (hv.2 h)
   conv=>whnf
   -- ny sign,joG (limbs y.natAbs) (limbs x.natAbs) (-1) list
   refine(joined_ok (limbs_lt _) (limbs_lt _) (.inr rfl) (by assumption) (by assumption) (by omega) _).mono ?_
   rintro o S' ⟨rfl,rfl⟩;conv=>whnf
   have hlen:(joG (limbs y.natAbs) (limbs x.natAbs) (-1)).length≤1000000000:=by
    have:=joG_len (s:=(-1)) (limbs y.natAbs) (limbs x.natAbs) (limbs_lt _) (limbs_lt _) (.inr rfl)
    omega
   refine(made_ok ny (joG (limbs y.natAbs) (limbs x.natAbs) (-1)) (joG_dig _ _ _) hlen _).mono ?_;rintro o S' ⟨rfl,rfl⟩;have hval:=(joG_val (a:=(limbs y.natAbs)) (b:=(limbs x.natAbs)) (s:=(-1)) (limbs_lt _) (by omega)).1
   rw[valL_limbs,valL_limbs] at hval;have hsum:(if ny then -(valL (joG (limbs y.natAbs) (limbs x.natAbs) (-1)):Int) else (valL (joG (limbs y.natAbs) (limbs x.natAbs) (-1)):Int))=x+y:=by
    rw[hval];clear hval hlen;have f1:nx=true→x<0:=fun h=>of_decide_eq_true (hnx.trans h)
    have f2:nx=false→¬ x<0:=fun h=>of_decide_eq_false (hnx.trans h)
    have g1:ny=true→y<0:=fun h=>of_decide_eq_true (hny.trans h)
    have g2:ny=false→¬ y<0:=fun h=>of_decide_eq_false (hny.trans h)
    clear hnx hny
    cases nx<;>cases ny<;>first | (exact absurd hsg (by decide)) | (simp only[if_true,Bool.false_eq_true,if_false,true_implies,false_implies,reduceCtorEq] at f1 f2 g1 g2 ⊢;omega)
   rw[hsum]
   by_cases hz:near (x+y)
   ·rw[bigAV_near hz];conv=>whnf
    refine⟨_,_,St.upd_same _ _ _,?_⟩;conv=>whnf
    refine⟨_,_,St.upd_same _ _ _,?_⟩;conv=>whnf
    refine⟨_,_,⟨rfl,rfl⟩,?_,AV.leS_refl _ _ _⟩;rw[St.upd_upd];exact St.le_upd' (St.le_upd' (St.le_upd' (St.le_refl _) hb2 _) hb3 _) hb4 _
   ·rw[bigAV_far hz];conv=>whnf
    refine⟨_,_,St.upd_same _ _ _,?_⟩;conv=>whnf
    refine⟨_,_,St.upd_same _ _ _,?_⟩;conv=>whnf
    refine⟨_,_,⟨rfl,rfl⟩,?_,AV.leS_refl _ _ _⟩;rw[St.upd_upd];exact St.le_upd' (St.le_upd' (St.le_upd' (St.le_refl _) hb2 _) hb3 _) hb4 _
theorem Add_fn(x y:Int)(hx:¬ near x)(kx:okZ x 9000000)(ky:okZ y 9000000)(hy:near y)(S:St):Triple P (C G) 201 [bigAV x,bigAV y] S fun o S'=>o=.ret (bigAV (x+y))∧S'=S:=by
 have sx:=fun S=>size_ok (G:=G) x S
 have sy:=fun S=>size_ok (G:=G) y S
 have gx:=fun S=>Sign_ok (G:=G) x S
 have gy:=fun S=>Sign_ok (G:=G) y S
 rw[bigAV_far hx] at *;rw[bigAV_near hy] at *;have nx:=far_pos hx;have lx:=limbs_ne (n:=x.natAbs) (by omega)
 refine triple_of_awp (hT G) hm Tryz.func201 rfl (by decide +kernel) rfl (by decide +kernel) (by show 2≤_;decide +kernel) rfl ?_
 refine awp_seq2 fun K hK hQ=>?_
 conv=>whnf
 intro b2 hb2;conv=>whnf
 intro b3 hb3;conv=>whnf
 intro b4 hb4;conv=>whnf
 refine hK _ _ ?_;clear hK hQ K;have k2:(((S.upd b2 (.obj 237 [.int .i64 0,.bool (decide (x<0)),.sl .any 1 (rowsU (limbs x.natAbs))])).upd b3 (.obj 237 [.int .i64 y,.bool false,.nils])).upd b4 (.obj 237 [.int .i64 0,.bool false,.nils])) b2=some (.obj 237 [.int .i64 0,.bool (decide (x<0)),.sl .any 1 (rowsU (limbs x.natAbs))]):=St.up hb4 (St.up hb3 (St.upd_same _ _ _));have k3:(((S.upd b2 (.obj 237 [.int .i64 0,.bool (decide (x<0)),.sl .any 1 (rowsU (limbs x.natAbs))])).upd b3 (.obj 237 [.int .i64 y,.bool false,.nils])).upd b4 (.obj 237 [.int .i64 0,.bool false,.nils])) b3=some (.obj 237 [.int .i64 y,.bool false,.nils]):=St.up hb4 (St.upd_same _ _ _);refine awp_seq2 fun K hK hQ=>?_
 conv=>whnf
 refine⟨_,_,k2,?_⟩;conv=>whnf
 intro c hc;have hc:=hc (rowsU_ne lx);subst hc;conv=>whnf
 -- ,the numbers' cells;sx sy gx gy hx hy in sight
 refine hK _ _ ?_;clear hK hQ K;refine awp_seq2 fun K hK hQ=>?_
 conv=>whnf
 refine⟨[1,3],(.free 0 (.free 1 (.free 2 (.free 3 (.free 4 (.free 5 .done)))))),_,by decide +kernel,?_,fun _ _ h=>⟨_,.inl rfl,h⟩⟩
 conv=>whnf
 refine⟨_,_,k2,?_⟩;conv=>whnf
 refine⟨.sl .any 1 (rowsU (limbs x.natAbs)),(sx _).mono ?_,?_⟩
 ·rintro o S' ⟨rfl,rfl⟩;exact⟨rfl,rfl⟩
 conv=>whnf
 refine⟨_,_,k3,?_⟩;conv=>whnf
 refine⟨.sl .any 1 (rowsU (limbs y.natAbs)),(sy _).mono ?_,?_⟩
 ·rintro o S' ⟨rfl,rfl⟩;exact⟨rfl,rfl⟩
 conv=>whnf
 refine hK _ _ ?_;clear hK hQ K;refine awp_seq2 fun K hK hQ=>?_
 conv=>whnf
 refine⟨[1,4],(.free 0 (.free 1 (.free 2 (.free 3 (.free 4 (.free 5 (.free 6 (.free 7 .done)))))))),_,by decide +kernel,?_,fun _ _ h=>⟨_,.inl rfl,h⟩⟩
 conv=>whnf
 refine⟨_,_,k2,?_⟩;conv=>whnf
 refine⟨.int .i64 (bSign x),(gx _).mono ?_,?_⟩
 ·rintro o S' ⟨rfl,rfl⟩;exact⟨rfl,rfl⟩
 conv=>whnf
 refine⟨_,_,k3,?_⟩;conv=>whnf
 refine⟨.int .i64 (bSign y),(gy _).mono ?_,?_⟩
 ·rintro o S' ⟨rfl,rfl⟩;exact⟨rfl,rfl⟩
 conv=>whnf
 refine hK _ _ ?_;clear hK hQ K;rw[bSign_neg,bSign_neg];generalize hnx:decide (x<0)=nx at *;generalize hny:decide (y<0)=ny at *;have kx':(limbs x.natAbs).length≤10000000:=Nat.le_trans kx (by decide)
 have ky':(limbs y.natAbs).length≤10000000:=Nat.le_trans ky (by decide)
 have vx:=valL_limbs x.natAbs
 have vy:=valL_limbs y.natAbs
 conv=>whnf
 refine split_of (fun hsg=>?_) (fun hsg=>?_)
 ·conv=>whnf
  -- nx sign,joG (limbs x.natAbs) (limbs y.natAbs) 1 list
  refine(joined_ok (limbs_lt _) (limbs_lt _) (.inl rfl) (by assumption) (by assumption) (by omega) _).mono ?_
  rintro o S' ⟨rfl,rfl⟩;conv=>whnf
  have hlen:(joG (limbs x.natAbs) (limbs y.natAbs) 1).length≤1000000000:=by
   have:=joG_len (s:=1) (limbs x.natAbs) (limbs y.natAbs) (limbs_lt _) (limbs_lt _) (.inl rfl)
   omega
  refine(made_ok nx (joG (limbs x.natAbs) (limbs y.natAbs) 1) (joG_dig _ _ _) hlen _).mono ?_;rintro o S' ⟨rfl,rfl⟩;have hval:=(joG_val (a:=(limbs x.natAbs)) (b:=(limbs y.natAbs)) (s:=1) (limbs_lt _) (by omega)).1
  rw[valL_limbs,valL_limbs] at hval;have hsum:(if nx then -(valL (joG (limbs x.natAbs) (limbs y.natAbs) 1):Int) else (valL (joG (limbs x.natAbs) (limbs y.natAbs) 1):Int))=x+y:=by
   rw[hval];clear hval hlen;have f1:nx=true→x<0:=fun h=>of_decide_eq_true (hnx.trans h)
   have f2:nx=false→¬ x<0:=fun h=>of_decide_eq_false (hnx.trans h)
   have g1:ny=true→y<0:=fun h=>of_decide_eq_true (hny.trans h)
   have g2:ny=false→¬ y<0:=fun h=>of_decide_eq_false (hny.trans h)
   clear hnx hny
   cases nx<;>cases ny<;>first | (exact absurd hsg (by decide)) | (simp only[if_true,Bool.false_eq_true,if_false,true_implies,false_implies,reduceCtorEq] at f1 f2 g1 g2 ⊢;omega)
  rw[hsum]
  by_cases hz:near (x+y)
  ·rw[bigAV_near hz];conv=>whnf
   refine⟨_,_,St.upd_same _ _ _,?_⟩;conv=>whnf
   refine⟨_,_,St.upd_same _ _ _,?_⟩;conv=>whnf
   refine⟨_,_,⟨rfl,rfl⟩,?_,AV.leS_refl _ _ _⟩;rw[St.upd_upd];exact St.le_upd' (St.le_upd' (St.le_upd' (St.le_refl _) hb2 _) hb3 _) hb4 _
  ·rw[bigAV_far hz];conv=>whnf
   refine⟨_,_,St.upd_same _ _ _,?_⟩;conv=>whnf
   refine⟨_,_,St.upd_same _ _ _,?_⟩;conv=>whnf
   refine⟨_,_,⟨rfl,rfl⟩,?_,AV.leS_refl _ _ _⟩;rw[St.upd_upd];exact St.le_upd' (St.le_upd' (St.le_upd' (St.le_refl _) hb2 _) hb3 _) hb4 _
 ·conv=>whnf
  refine(sizes_ok x.natAbs y.natAbs (by omega) (by omega) _).mono ?_
  rintro o S' ⟨v,rfl,hv,rfl⟩;conv=>whnf
  refine split_of (fun hge=>?_) (fun hge=>?_)
  ·have hle:=hv.1 (of_decide_eq_true hge)
   conv=>whnf
   -- nx sign,joG (limbs x.natAbs) (limbs y.natAbs) (-1) list
   refine(joined_ok (limbs_lt _) (limbs_lt _) (.inr rfl) (by assumption) (by assumption) (by omega) _).mono ?_
   rintro o S' ⟨rfl,rfl⟩;conv=>whnf
   have hlen:(joG (limbs x.natAbs) (limbs y.natAbs) (-1)).length≤1000000000:=by
    have:=joG_len (s:=(-1)) (limbs x.natAbs) (limbs y.natAbs) (limbs_lt _) (limbs_lt _) (.inr rfl)
    omega
   refine(made_ok nx (joG (limbs x.natAbs) (limbs y.natAbs) (-1)) (joG_dig _ _ _) hlen _).mono ?_;rintro o S' ⟨rfl,rfl⟩;have hval:=(joG_val (a:=(limbs x.natAbs)) (b:=(limbs y.natAbs)) (s:=(-1)) (limbs_lt _) (by omega)).1
   rw[valL_limbs,valL_limbs] at hval;have hsum:(if nx then -(valL (joG (limbs x.natAbs) (limbs y.natAbs) (-1)):Int) else (valL (joG (limbs x.natAbs) (limbs y.natAbs) (-1)):Int))=x+y:=by
    rw[hval];clear hval hlen;have f1:nx=true→x<0:=fun h=>of_decide_eq_true (hnx.trans h)
    have f2:nx=false→¬ x<0:=fun h=>of_decide_eq_false (hnx.trans h)
    have g1:ny=true→y<0:=fun h=>of_decide_eq_true (hny.trans h)
    have g2:ny=false→¬ y<0:=fun h=>of_decide_eq_false (hny.trans h)
    clear hnx hny
    cases nx<;>cases ny<;>first | (exact absurd hsg (by decide)) | (simp only[if_true,Bool.false_eq_true,if_false,true_implies,false_implies,reduceCtorEq] at f1 f2 g1 g2 ⊢;omega)
   rw[hsum]
   by_cases hz:near (x+y)
   ·rw[bigAV_near hz];conv=>whnf
    refine⟨_,_,St.upd_same _ _ _,?_⟩;conv=>whnf
    refine⟨_,_,St.upd_same _ _ _,?_⟩;conv=>whnf
    refine⟨_,_,⟨rfl,rfl⟩,?_,AV.leS_refl _ _ _⟩;rw[St.upd_upd];exact St.le_upd' (St.le_upd' (St.le_upd' (St.le_refl _) hb2 _) hb3 _) hb4 _
   ·rw[bigAV_far hz];conv=>whnf
    refine⟨_,_,St.upd_same _ _ _,?_⟩;conv=>whnf
    refine⟨_,_,St.upd_same _ _ _,?_⟩;conv=>whnf
    refine⟨_,_,⟨rfl,rfl⟩,?_,AV.leS_refl _ _ _⟩;rw[St.upd_upd];exact St.le_upd' (St.le_upd' (St.le_upd' (St.le_refl _) hb2 _) hb3 _) hb4 _
  ·have hle:¬ y.natAbs≤x.natAbs:=fun h=>of_decide_eq_false hge (hv.2 h)
   conv=>whnf
   -- ny sign,joG (limbs y.natAbs) (limbs x.natAbs) (-1) list
   refine(joined_ok (limbs_lt _) (limbs_lt _) (.inr rfl) (by assumption) (by assumption) (by omega) _).mono ?_
   rintro o S' ⟨rfl,rfl⟩;conv=>whnf
   have hlen:(joG (limbs y.natAbs) (limbs x.natAbs) (-1)).length≤1000000000:=by
    have:=joG_len (s:=(-1)) (limbs y.natAbs) (limbs x.natAbs) (limbs_lt _) (limbs_lt _) (.inr rfl)
    omega
   refine(made_ok ny (joG (limbs y.natAbs) (limbs x.natAbs) (-1)) (joG_dig _ _ _) hlen _).mono ?_;rintro o S' ⟨rfl,rfl⟩;have hval:=(joG_val (a:=(limbs y.natAbs)) (b:=(limbs x.natAbs)) (s:=(-1)) (limbs_lt _) (by omega)).1
   rw[valL_limbs,valL_limbs] at hval;have hsum:(if ny then -(valL (joG (limbs y.natAbs) (limbs x.natAbs) (-1)):Int) else (valL (joG (limbs y.natAbs) (limbs x.natAbs) (-1)):Int))=x+y:=by
    rw[hval];clear hval hlen;have f1:nx=true→x<0:=fun h=>of_decide_eq_true (hnx.trans h)
    have f2:nx=false→¬ x<0:=fun h=>of_decide_eq_false (hnx.trans h)
    have g1:ny=true→y<0:=fun h=>of_decide_eq_true (hny.trans h)
    have g2:ny=false→¬ y<0:=fun h=>of_decide_eq_false (hny.trans h)
    clear hnx hny
    cases nx<;>cases ny<;>first | (exact absurd hsg (by decide)) | (simp only[if_true,Bool.false_eq_true,if_false,true_implies,false_implies,reduceCtorEq] at f1 f2 g1 g2 ⊢;omega)
   rw[hsum]
   by_cases hz:near (x+y)
   ·rw[bigAV_near hz];conv=>whnf
    refine⟨_,_,St.upd_same _ _ _,?_⟩;conv=>whnf
    refine⟨_,_,St.upd_same _ _ _,?_⟩;conv=>whnf
    refine⟨_,_,⟨rfl,rfl⟩,?_,AV.leS_refl _ _ _⟩;rw[St.upd_upd];exact St.le_upd' (St.le_upd' (St.le_upd' (St.le_refl _) hb2 _) hb3 _) hb4 _
   ·rw[bigAV_far hz];conv=>whnf
    refine⟨_,_,St.upd_same _ _ _,?_⟩;conv=>whnf
    refine⟨_,_,St.upd_same _ _ _,?_⟩;conv=>whnf
    refine⟨_,_,⟨rfl,rfl⟩,?_,AV.leS_refl _ _ _⟩;rw[St.upd_upd];exact St.le_upd' (St.le_upd' (St.le_upd' (St.le_refl _) hb2 _) hb3 _) hb4 _
theorem Add_nf(x y:Int)(hx:near x)(kx:okZ x 9000000)(ky:okZ y 9000000)(hy:¬ near y)(S:St):Triple P (C G) 201 [bigAV x,bigAV y] S fun o S'=>o=.ret (bigAV (x+y))∧S'=S:=by
 have sx:=fun S=>size_ok (G:=G) x S
 have sy:=fun S=>size_ok (G:=G) y S
 have gx:=fun S=>Sign_ok (G:=G) x S
 have gy:=fun S=>Sign_ok (G:=G) y S
 rw[bigAV_far hy] at *;rw[bigAV_near hx] at *;have ny:=far_pos hy;have ly:=limbs_ne (n:=y.natAbs) (by omega)
 refine triple_of_awp (hT G) hm Tryz.func201 rfl (by decide +kernel) rfl (by decide +kernel) (by show 2≤_;decide +kernel) rfl ?_
 refine awp_seq2 fun K hK hQ=>?_
 conv=>whnf
 intro b2 hb2;conv=>whnf
 intro b3 hb3;conv=>whnf
 intro b4 hb4;conv=>whnf
 refine hK _ _ ?_;clear hK hQ K;have k2:(((S.upd b2 (.obj 237 [.int .i64 x,.bool false,.nils])).upd b3 (.obj 237 [.int .i64 0,.bool (decide (y<0)),.sl .any 1 (rowsU (limbs y.natAbs))])).upd b4 (.obj 237 [.int .i64 0,.bool false,.nils])) b2=some (.obj 237 [.int .i64 x,.bool false,.nils]):=St.up hb4 (St.up hb3 (St.upd_same _ _ _));have k3:(((S.upd b2 (.obj 237 [.int .i64 x,.bool false,.nils])).upd b3 (.obj 237 [.int .i64 0,.bool (decide (y<0)),.sl .any 1 (rowsU (limbs y.natAbs))])).upd b4 (.obj 237 [.int .i64 0,.bool false,.nils])) b3=some (.obj 237 [.int .i64 0,.bool (decide (y<0)),.sl .any 1 (rowsU (limbs y.natAbs))]):=St.up hb4 (St.upd_same _ _ _);refine awp_seq2 fun K hK hQ=>?_
 conv=>whnf
 refine⟨_,_,k2,?_⟩;conv=>whnf
 refine⟨_,_,k3,?_⟩;conv=>whnf
 intro c hc;have hc:=hc (rowsU_ne ly);subst hc;conv=>whnf
 -- ,the numbers' cells;sx sy gx gy hx hy in sight
 refine hK _ _ ?_;clear hK hQ K;refine awp_seq2 fun K hK hQ=>?_
 conv=>whnf
 refine⟨[1,3],(.free 0 (.free 1 (.free 2 (.free 3 (.free 4 (.free 5 .done)))))),_,by decide +kernel,?_,fun _ _ h=>⟨_,.inl rfl,h⟩⟩
 conv=>whnf
 refine⟨_,_,k2,?_⟩;conv=>whnf
 refine⟨.sl .any 1 (rowsU (limbs x.natAbs)),(sx _).mono ?_,?_⟩
 ·rintro o S' ⟨rfl,rfl⟩;exact⟨rfl,rfl⟩
 conv=>whnf
 refine⟨_,_,k3,?_⟩;conv=>whnf
 refine⟨.sl .any 1 (rowsU (limbs y.natAbs)),(sy _).mono ?_,?_⟩
 ·rintro o S' ⟨rfl,rfl⟩;exact⟨rfl,rfl⟩
 conv=>whnf
 refine hK _ _ ?_;clear hK hQ K;refine awp_seq2 fun K hK hQ=>?_
 conv=>whnf
 refine⟨[1,4],(.free 0 (.free 1 (.free 2 (.free 3 (.free 4 (.free 5 (.free 6 (.free 7 .done)))))))),_,by decide +kernel,?_,fun _ _ h=>⟨_,.inl rfl,h⟩⟩
 conv=>whnf
 refine⟨_,_,k2,?_⟩;conv=>whnf
 refine⟨.int .i64 (bSign x),(gx _).mono ?_,?_⟩
 ·rintro o S' ⟨rfl,rfl⟩;exact⟨rfl,rfl⟩
 conv=>whnf
 refine⟨_,_,k3,?_⟩;conv=>whnf
 refine⟨.int .i64 (bSign y),(gy _).mono ?_,?_⟩
 ·rintro o S' ⟨rfl,rfl⟩;exact⟨rfl,rfl⟩
 conv=>whnf
 refine hK _ _ ?_;clear hK hQ K;rw[bSign_neg,bSign_neg];generalize hnx:decide (x<0)=nx at *;generalize hny:decide (y<0)=ny at *;have kx':(limbs x.natAbs).length≤10000000:=Nat.le_trans kx (by decide)
 have ky':(limbs y.natAbs).length≤10000000:=Nat.le_trans ky (by decide)
 have vx:=valL_limbs x.natAbs
 have vy:=valL_limbs y.natAbs
 conv=>whnf
 refine split_of (fun hsg=>?_) (fun hsg=>?_)
 ·conv=>whnf
  -- nx sign,joG (limbs x.natAbs) (limbs y.natAbs) 1 list
  refine(joined_ok (limbs_lt _) (limbs_lt _) (.inl rfl) (by assumption) (by assumption) (by omega) _).mono ?_
  rintro o S' ⟨rfl,rfl⟩;conv=>whnf
  have hlen:(joG (limbs x.natAbs) (limbs y.natAbs) 1).length≤1000000000:=by
   have:=joG_len (s:=1) (limbs x.natAbs) (limbs y.natAbs) (limbs_lt _) (limbs_lt _) (.inl rfl)
   omega
  refine(made_ok nx (joG (limbs x.natAbs) (limbs y.natAbs) 1) (joG_dig _ _ _) hlen _).mono ?_;rintro o S' ⟨rfl,rfl⟩;have hval:=(joG_val (a:=(limbs x.natAbs)) (b:=(limbs y.natAbs)) (s:=1) (limbs_lt _) (by omega)).1
  rw[valL_limbs,valL_limbs] at hval;have hsum:(if nx then -(valL (joG (limbs x.natAbs) (limbs y.natAbs) 1):Int) else (valL (joG (limbs x.natAbs) (limbs y.natAbs) 1):Int))=x+y:=by
   rw[hval];clear hval hlen;have f1:nx=true→x<0:=fun h=>of_decide_eq_true (hnx.trans h)
   have f2:nx=false→¬ x<0:=fun h=>of_decide_eq_false (hnx.trans h)
   have g1:ny=true→y<0:=fun h=>of_decide_eq_true (hny.trans h)
   have g2:ny=false→¬ y<0:=fun h=>of_decide_eq_false (hny.trans h)
   clear hnx hny
   cases nx<;>cases ny<;>first | (exact absurd hsg (by decide)) | (simp only[if_true,Bool.false_eq_true,if_false,true_implies,false_implies,reduceCtorEq] at f1 f2 g1 g2 ⊢;omega)
  rw[hsum]
  by_cases hz:near (x+y)
  ·rw[bigAV_near hz];conv=>whnf
   refine⟨_,_,St.upd_same _ _ _,?_⟩;conv=>whnf
   refine⟨_,_,St.upd_same _ _ _,?_⟩;conv=>whnf
   refine⟨_,_,⟨rfl,rfl⟩,?_,AV.leS_refl _ _ _⟩;rw[St.upd_upd];exact St.le_upd' (St.le_upd' (St.le_upd' (St.le_refl _) hb2 _) hb3 _) hb4 _
  ·rw[bigAV_far hz];conv=>whnf
   refine⟨_,_,St.upd_same _ _ _,?_⟩;conv=>whnf
   refine⟨_,_,St.upd_same _ _ _,?_⟩;conv=>whnf
   refine⟨_,_,⟨rfl,rfl⟩,?_,AV.leS_refl _ _ _⟩;rw[St.upd_upd];exact St.le_upd' (St.le_upd' (St.le_upd' (St.le_refl _) hb2 _) hb3 _) hb4 _
 ·conv=>whnf
  refine(sizes_ok x.natAbs y.natAbs (by omega) (by omega) _).mono ?_
  rintro o S' ⟨v,rfl,hv,rfl⟩;conv=>whnf
  refine split_of (fun hge=>?_) (fun hge=>?_)
  ·have hle:=hv.1 (of_decide_eq_true hge)
   conv=>whnf
   -- nx sign,joG (limbs x.natAbs) (limbs y.natAbs) (-1) list
   refine(joined_ok (limbs_lt _) (limbs_lt _) (.inr rfl) (by assumption) (by assumption) (by omega) _).mono ?_
   rintro o S' ⟨rfl,rfl⟩;conv=>whnf
   have hlen:(joG (limbs x.natAbs) (limbs y.natAbs) (-1)).length≤1000000000:=by
    have:=joG_len (s:=(-1)) (limbs x.natAbs) (limbs y.natAbs) (limbs_lt _) (limbs_lt _) (.inr rfl)
    omega
   refine(made_ok nx (joG (limbs x.natAbs) (limbs y.natAbs) (-1)) (joG_dig _ _ _) hlen _).mono ?_;rintro o S' ⟨rfl,rfl⟩;have hval:=(joG_val (a:=(limbs x.natAbs)) (b:=(limbs y.natAbs)) (s:=(-1)) (limbs_lt _) (by omega)).1
   rw[valL_limbs,valL_limbs] at hval;have hsum:(if nx then -(valL (joG (limbs x.natAbs) (limbs y.natAbs) (-1)):Int) else (valL (joG (limbs x.natAbs) (limbs y.natAbs) (-1)):Int))=x+y:=by
    rw[hval];clear hval hlen;have f1:nx=true→x<0:=fun h=>of_decide_eq_true (hnx.trans h)
    have f2:nx=false→¬ x<0:=fun h=>of_decide_eq_false (hnx.trans h)
    have g1:ny=true→y<0:=fun h=>of_decide_eq_true (hny.trans h)
    have g2:ny=false→¬ y<0:=fun h=>of_decide_eq_false (hny.trans h)
    clear hnx hny
    cases nx<;>cases ny<;>first | (exact absurd hsg (by decide)) | (simp only[if_true,Bool.false_eq_true,if_false,true_implies,false_implies,reduceCtorEq] at f1 f2 g1 g2 ⊢;omega)
   rw[hsum]
   by_cases hz:near (x+y)
   ·rw[bigAV_near hz];conv=>whnf
    refine⟨_,_,St.upd_same _ _ _,?_⟩;conv=>whnf
    refine⟨_,_,St.upd_same _ _ _,?_⟩;conv=>whnf
    refine⟨_,_,⟨rfl,rfl⟩,?_,AV.leS_refl _ _ _⟩;rw[St.upd_upd];exact St.le_upd' (St.le_upd' (St.le_upd' (St.le_refl _) hb2 _) hb3 _) hb4 _
   ·rw[bigAV_far hz];conv=>whnf
    refine⟨_,_,St.upd_same _ _ _,?_⟩;conv=>whnf
    refine⟨_,_,St.upd_same _ _ _,?_⟩;conv=>whnf
    refine⟨_,_,⟨rfl,rfl⟩,?_,AV.leS_refl _ _ _⟩;rw[St.upd_upd];exact St.le_upd' (St.le_upd' (St.le_upd' (St.le_refl _) hb2 _) hb3 _) hb4 _
  ·have hle:¬ y.natAbs≤x.natAbs:=fun h=>of_decide_eq_false hge (hv.2 h)
   conv=>whnf
   -- ny sign,joG (limbs y.natAbs) (limbs x.natAbs) (-1) list
   refine(joined_ok (limbs_lt _) (limbs_lt _) (.inr rfl) (by assumption) (by assumption) (by omega) _).mono ?_
   rintro o S' ⟨rfl,rfl⟩;conv=>whnf
   have hlen:(joG (limbs y.natAbs) (limbs x.natAbs) (-1)).length≤1000000000:=by
    have:=joG_len (s:=(-1)) (limbs y.natAbs) (limbs x.natAbs) (limbs_lt _) (limbs_lt _) (.inr rfl)
    omega
   refine(made_ok ny (joG (limbs y.natAbs) (limbs x.natAbs) (-1)) (joG_dig _ _ _) hlen _).mono ?_;rintro o S' ⟨rfl,rfl⟩;have hval:=(joG_val (a:=(limbs y.natAbs)) (b:=(limbs x.natAbs)) (s:=(-1)) (limbs_lt _) (by omega)).1
   rw[valL_limbs,valL_limbs] at hval;have hsum:(if ny then -(valL (joG (limbs y.natAbs) (limbs x.natAbs) (-1)):Int) else (valL (joG (limbs y.natAbs) (limbs x.natAbs) (-1)):Int))=x+y:=by
    rw[hval];clear hval hlen;have f1:nx=true→x<0:=fun h=>of_decide_eq_true (hnx.trans h)
    have f2:nx=false→¬ x<0:=fun h=>of_decide_eq_false (hnx.trans h)
    have g1:ny=true→y<0:=fun h=>of_decide_eq_true (hny.trans h)
    have g2:ny=false→¬ y<0:=fun h=>of_decide_eq_false (hny.trans h)
    clear hnx hny
    cases nx<;>cases ny<;>first | (exact absurd hsg (by decide)) | (simp only[if_true,Bool.false_eq_true,if_false,true_implies,false_implies,reduceCtorEq] at f1 f2 g1 g2 ⊢;omega)
   rw[hsum]
   by_cases hz:near (x+y)
   ·rw[bigAV_near hz];conv=>whnf
    refine⟨_,_,St.upd_same _ _ _,?_⟩;conv=>whnf
    refine⟨_,_,St.upd_same _ _ _,?_⟩;conv=>whnf
    refine⟨_,_,⟨rfl,rfl⟩,?_,AV.leS_refl _ _ _⟩;rw[St.upd_upd];exact St.le_upd' (St.le_upd' (St.le_upd' (St.le_refl _) hb2 _) hb3 _) hb4 _
   ·rw[bigAV_far hz];conv=>whnf
    refine⟨_,_,St.upd_same _ _ _,?_⟩;conv=>whnf
    refine⟨_,_,St.upd_same _ _ _,?_⟩;conv=>whnf
    refine⟨_,_,⟨rfl,rfl⟩,?_,AV.leS_refl _ _ _⟩;rw[St.upd_upd];exact St.le_upd' (St.le_upd' (St.le_upd' (St.le_refl _) hb2 _) hb3 _) hb4 _
theorem Add_ok(x y:Int)(kx:okZ x 9000000)(ky:okZ y 9000000)(S:St):Triple P (C G) 201 [bigAV x,bigAV y] S fun o S'=>o=.ret (bigAV (x+y))∧S'=S:=by
 by_cases hx:near x<;>by_cases hy:near y
 ·have:=Add_near (G:=G) x y hx hy S
  rw[bigAV_near hx,bigAV_near hy];exact this
 ·exact Add_nf x y hx kx ky hy S
 ·exact Add_fn x y hx kx ky hy S
 ·exact Add_ff x y hx kx ky hy S
theorem Sub_ok(x y:Int)(kx:okZ x 9000000)(ky:okZ y 9000000)(S:St):Triple P (C G) 192 [bigAV x,bigAV y] S fun o S'=>o=.ret (bigAV (x-y))∧S'=S:=by
 have nn:=fun S=>Neg_ok (G:=G) y S
 have aa:=fun S=>Add_ok (G:=G) x (-y) kx (by unfold okZ at *;rwa [Int.natAbs_neg]) S
 by_cases hx:near x<;>by_cases hy:near y
 ·rw[bigAV_near hx] at *;rw[bigAV_near hy] at *;rw[bigAV_near (near_neg.2 hy)] at *;refine triple_of_awp (hT G) hm Tryz.func192 rfl (by decide +kernel) rfl (by decide +kernel) (by show 2≤_;decide +kernel) rfl ?_
  conv=>whnf
  intro b2 hb2;conv=>whnf
  intro b3 hb3;conv=>whnf
  intro b4 hb4;conv=>whnf
  refine⟨[2,3],(.free 0 (.free 1 (.free 2 (.free 3 (.one 4 .done .none))))),_,by decide +kernel,?_,fun _ _ h=>⟨_,.inl rfl,h⟩⟩
  conv=>whnf
  refine⟨_,_,St.up hb4 (St.up hb3 (St.upd_same _ _ _)),?_⟩;conv=>whnf
  refine⟨_,_,St.up hb4 (St.upd_same _ _ _),?_⟩;conv=>whnf
  refine⟨nearAV (-y),(nn _).mono ?_,?_⟩
  ·rintro o S' ⟨rfl,rfl⟩;exact⟨rfl,rfl⟩
  conv=>whnf
  refine⟨bigAV (x+-y),(aa _).mono ?_,?_⟩
  ·rintro o S' ⟨rfl,rfl⟩;exact⟨rfl,rfl⟩
  rw[← Int.sub_eq_add_neg]
  by_cases hz:near (x-y)
  ·rw[bigAV_near hz];conv=>whnf
   refine⟨_,_,St.upd_same _ _ _,?_⟩;conv=>whnf
   refine⟨_,_,St.upd_same _ _ _,?_⟩;conv=>whnf
   refine⟨_,_,⟨rfl,rfl⟩,?_,AV.leS_refl _ _ _⟩;rw[St.upd_upd];exact St.le_upd' (St.le_upd' (St.le_upd' (St.le_refl _) hb2 _) hb3 _) hb4 _
  ·rw[bigAV_far hz];conv=>whnf
   refine⟨_,_,St.upd_same _ _ _,?_⟩;conv=>whnf
   refine⟨_,_,St.upd_same _ _ _,?_⟩;conv=>whnf
   refine⟨_,_,⟨rfl,rfl⟩,?_,AV.leS_refl _ _ _⟩;rw[St.upd_upd];exact St.le_upd' (St.le_upd' (St.le_upd' (St.le_refl _) hb2 _) hb3 _) hb4 _
 ·rw[bigAV_near hx] at *;rw[bigAV_far hy] at *;rw[bigAV_far (fun h=>hy (near_neg.1 h))] at *
  refine triple_of_awp (hT G) hm Tryz.func192 rfl (by decide +kernel) rfl (by decide +kernel) (by show 2≤_;decide +kernel) rfl ?_
  conv=>whnf
  intro b2 hb2;conv=>whnf
  intro b3 hb3;conv=>whnf
  intro b4 hb4;conv=>whnf
  refine⟨[2,3],(.free 0 (.free 1 (.free 2 (.free 3 (.one 4 .done .none))))),_,by decide +kernel,?_,fun _ _ h=>⟨_,.inl rfl,h⟩⟩
  conv=>whnf
  refine⟨_,_,St.up hb4 (St.up hb3 (St.upd_same _ _ _)),?_⟩;conv=>whnf
  refine⟨_,_,St.up hb4 (St.upd_same _ _ _),?_⟩;conv=>whnf
  refine⟨farAV (decide (-y<0)) (limbs (-y).natAbs),(nn _).mono ?_,?_⟩
  ·rintro o S' ⟨rfl,rfl⟩;exact⟨rfl,rfl⟩
  conv=>whnf
  refine⟨bigAV (x+-y),(aa _).mono ?_,?_⟩
  ·rintro o S' ⟨rfl,rfl⟩;exact⟨rfl,rfl⟩
  rw[← Int.sub_eq_add_neg]
  by_cases hz:near (x-y)
  ·rw[bigAV_near hz];conv=>whnf
   refine⟨_,_,St.upd_same _ _ _,?_⟩;conv=>whnf
   refine⟨_,_,St.upd_same _ _ _,?_⟩;conv=>whnf
   refine⟨_,_,⟨rfl,rfl⟩,?_,AV.leS_refl _ _ _⟩;rw[St.upd_upd];exact St.le_upd' (St.le_upd' (St.le_upd' (St.le_refl _) hb2 _) hb3 _) hb4 _
  ·rw[bigAV_far hz];conv=>whnf
   refine⟨_,_,St.upd_same _ _ _,?_⟩;conv=>whnf
   refine⟨_,_,St.upd_same _ _ _,?_⟩;conv=>whnf
   refine⟨_,_,⟨rfl,rfl⟩,?_,AV.leS_refl _ _ _⟩;rw[St.upd_upd];exact St.le_upd' (St.le_upd' (St.le_upd' (St.le_refl _) hb2 _) hb3 _) hb4 _
 ·rw[bigAV_far hx] at *;rw[bigAV_near hy] at *;rw[bigAV_near (near_neg.2 hy)] at *;refine triple_of_awp (hT G) hm Tryz.func192 rfl (by decide +kernel) rfl (by decide +kernel) (by show 2≤_;decide +kernel) rfl ?_
  conv=>whnf
  intro b2 hb2;conv=>whnf
  intro b3 hb3;conv=>whnf
  intro b4 hb4;conv=>whnf
  refine⟨[2,3],(.free 0 (.free 1 (.free 2 (.free 3 (.one 4 .done .none))))),_,by decide +kernel,?_,fun _ _ h=>⟨_,.inl rfl,h⟩⟩
  conv=>whnf
  refine⟨_,_,St.up hb4 (St.up hb3 (St.upd_same _ _ _)),?_⟩;conv=>whnf
  refine⟨_,_,St.up hb4 (St.upd_same _ _ _),?_⟩;conv=>whnf
  refine⟨nearAV (-y),(nn _).mono ?_,?_⟩
  ·rintro o S' ⟨rfl,rfl⟩;exact⟨rfl,rfl⟩
  conv=>whnf
  refine⟨bigAV (x+-y),(aa _).mono ?_,?_⟩
  ·rintro o S' ⟨rfl,rfl⟩;exact⟨rfl,rfl⟩
  rw[← Int.sub_eq_add_neg]
  by_cases hz:near (x-y)
  ·rw[bigAV_near hz];conv=>whnf
   refine⟨_,_,St.upd_same _ _ _,?_⟩;conv=>whnf
   refine⟨_,_,St.upd_same _ _ _,?_⟩;conv=>whnf
   refine⟨_,_,⟨rfl,rfl⟩,?_,AV.leS_refl _ _ _⟩;rw[St.upd_upd];exact St.le_upd' (St.le_upd' (St.le_upd' (St.le_refl _) hb2 _) hb3 _) hb4 _
  ·rw[bigAV_far hz];conv=>whnf
   refine⟨_,_,St.upd_same _ _ _,?_⟩;conv=>whnf
   refine⟨_,_,St.upd_same _ _ _,?_⟩;conv=>whnf
   refine⟨_,_,⟨rfl,rfl⟩,?_,AV.leS_refl _ _ _⟩;rw[St.upd_upd];exact St.le_upd' (St.le_upd' (St.le_upd' (St.le_refl _) hb2 _) hb3 _) hb4 _
 ·rw[bigAV_far hx] at *;rw[bigAV_far hy] at *;rw[bigAV_far (fun h=>hy (near_neg.1 h))] at *
  refine triple_of_awp (hT G) hm Tryz.func192 rfl (by decide +kernel) rfl (by decide +kernel) (by show 2≤_;decide +kernel) rfl ?_
  conv=>whnf
  intro b2 hb2;conv=>whnf
  intro b3 hb3;conv=>whnf
  intro b4 hb4;conv=>whnf
  refine⟨[2,3],(.free 0 (.free 1 (.free 2 (.free 3 (.one 4 .done .none))))),_,by decide +kernel,?_,fun _ _ h=>⟨_,.inl rfl,h⟩⟩
  conv=>whnf
  refine⟨_,_,St.up hb4 (St.up hb3 (St.upd_same _ _ _)),?_⟩;conv=>whnf
  refine⟨_,_,St.up hb4 (St.upd_same _ _ _),?_⟩;conv=>whnf
  refine⟨farAV (decide (-y<0)) (limbs (-y).natAbs),(nn _).mono ?_,?_⟩
  ·rintro o S' ⟨rfl,rfl⟩;exact⟨rfl,rfl⟩
  conv=>whnf
  refine⟨bigAV (x+-y),(aa _).mono ?_,?_⟩
  ·rintro o S' ⟨rfl,rfl⟩;exact⟨rfl,rfl⟩
  rw[← Int.sub_eq_add_neg]
  by_cases hz:near (x-y)
  ·rw[bigAV_near hz];conv=>whnf
   refine⟨_,_,St.upd_same _ _ _,?_⟩;conv=>whnf
   refine⟨_,_,St.upd_same _ _ _,?_⟩;conv=>whnf
   refine⟨_,_,⟨rfl,rfl⟩,?_,AV.leS_refl _ _ _⟩;rw[St.upd_upd];exact St.le_upd' (St.le_upd' (St.le_upd' (St.le_refl _) hb2 _) hb3 _) hb4 _
  ·rw[bigAV_far hz];conv=>whnf
   refine⟨_,_,St.upd_same _ _ _,?_⟩;conv=>whnf
   refine⟨_,_,St.upd_same _ _ _,?_⟩;conv=>whnf
   refine⟨_,_,⟨rfl,rfl⟩,?_,AV.leS_refl _ _ _⟩;rw[St.upd_upd];exact St.le_upd' (St.le_upd' (St.le_upd' (St.le_refl _) hb2 _) hb3 _) hb4 _
theorem Cmp_ok(x y:Int)(kx:okZ x 9000000)(ky:okZ y 9000000)(S:St):Triple P (C G) 184 [bigAV x,bigAV y] S fun o S'=>o=.ret (.int .i64 (bSign (x-y)))∧S'=S:=by
 have aa:=fun S=>Sub_ok (G:=G) x y kx ky S
 have gg:=fun S=>Sign_ok (G:=G) (x-y) S
 by_cases hx:near x<;>by_cases hy:near y<;>by_cases hz:near (x-y)
 all_goals first | rw[bigAV_near hx] at*| rw[bigAV_far hx] at *
 all_goals first | rw[bigAV_near hy] at*| rw[bigAV_far hy] at *
 all_goals first | rw[bigAV_near hz] at*| rw[bigAV_far hz] at *
 all_goals refine triple_of_awp (hT G) hm Tryz.func184 rfl (by decide +kernel) rfl (by decide +kernel) (by show 2≤_;decide +kernel) rfl ?_
 all_goals conv=>whnf
 all_goals intro b2 hb2
 all_goals conv=>whnf
 all_goals intro b3 hb3
 all_goals conv=>whnf
 all_goals refine⟨_,_,St.up hb3 (St.upd_same _ _ _),?_⟩
 all_goals conv=>whnf
 all_goals refine⟨_,_,St.upd_same _ _ _,?_⟩
 all_goals conv=>whnf
 all_goals refine(aa _).mono ?_
 all_goals rintro o S' ⟨rfl,rfl⟩
 all_goals conv=>whnf
 all_goals refine(gg _).mono ?_
 all_goals rintro o S' ⟨rfl,rfl⟩
 all_goals conv=>whnf
 all_goals exact⟨_,_,⟨rfl,rfl⟩,St.le_upd' (St.le_upd' (St.le_refl _) hb2 _) hb3 _,AV.leS_refl _ _ _⟩
end Go.Proofs.YtjpboanohpaibaaGreatDoor.Aw

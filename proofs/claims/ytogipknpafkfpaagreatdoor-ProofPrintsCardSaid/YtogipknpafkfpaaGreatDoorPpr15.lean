/- Plain: the words of a text that joins words by blanks. Plain: big.Int's Small tells no small number of a great one; pref -/
import Derived.Test.YtogipknpafkfpaaGreatDoorPpr14
import Derived.Test.YtogipknpafkfpaaGreatDoorPpr10
import Derived.Test.YtogipknpafkfpaaGreatDoorPpr12
import Derived.Test.YtogipknpafkfpaaGreatDoorPpr13
set_option linter.all false
set_option maxRecDepth 100000
namespace Go.Proofs.YtogipknpafkfpaaGreatDoor.Aw
open Go Go.RowKit
def GoodB(c:UInt8):Prop:=33≤c.toNat∧c.toNat≤126
def GoodL(w:List UInt8):Prop:=w≠[]∧∀ c∈w,GoodB c
theorem join_len_cons(w x:List UInt8)(ws:List (List UInt8)):(Lib.join (w::x::ws) [32])=w++32::Lib.join (x::ws) [32]:=by
 simp[Lib.join,List.intercalate]
theorem parseUint10_ge:∀ (l:List UInt8) (acc u:Nat),Lib.parseUint10 acc l=.ok u→acc*10 ^ l.length≤u
 | [],acc,u,h=>by
  simp only[Lib.parseUint10,Lib.NumEnd.ok.injEq] at h
  simp[h]
 | c::r,acc,u,h=>by
   simp only[Lib.parseUint10] at h
   split at h
   ·split at h
    ·cases h
    ·split at h
     ·cases h
     ·have:=parseUint10_ge r _ u h
      rw[List.length_cons,Nat.pow_succ];have h2:acc*10*10 ^ r.length≤(acc*10+(c.toNat-48))*10 ^ r.length:=Nat.mul_le_mul_right _ (by omega)
      have h3:acc*(10 ^ r.length*10)=acc*10*10 ^ r.length:=by rw[Nat.mul_comm (10 ^ r.length) 10,Nat.mul_assoc]
      omega
   ·cases h
theorem decDigits_head(u:Nat)(h:1≤u):∃ c r,Lib.decDigits u=c::r∧49≤c.toNat∧c.toNat≤57:=by
 induction u using Nat.strongRecOn with
 | _ u ih=>
   rw[Lib.decDigits]
   by_cases h10:u<10
   ·rw[dif_pos h10];refine⟨_,_,rfl,?_,?_⟩
    ·have:(UInt8.ofNat (48+u)).toNat=48+u:=by simp;omega
     omega
    ·have:(UInt8.ofNat (48+u)).toNat=48+u:=by simp;omega
     omega
   ·rw[dif_neg h10];obtain⟨c,r,e,h1,h2⟩:=ih (u / 10) (by omega) (by omega)
    exact⟨c,r++[UInt8.ofNat (48+u % 10)],by rw[e];rfl,h1,h2⟩
theorem atoi_far{c:UInt8}{r:List UInt8}{v:Int}(h1:49≤c.toNat)(h2:c.toNat≤57)(hr:18≤r.length)(h:Lib.atoiAll (c::r)=.ok v):1073741824<v:=by
 have hn:¬ (c.toNat=43∨c.toNat=45):=by omega
 have hn2:¬ c.toNat=45:=by omega
 unfold Lib.atoiAll at h;simp only[if_neg hn] at h
 split at h
 ·cases h
 ·cases h
 ·rename_i u hu
  simp only[hn2,not_false_eq_true,true_and,false_and,if_false] at h
  split at h
  ·cases h
  ·simp only[Lib.NumEnd.ok.injEq] at h;unfold Lib.parseMag at hu;rw[if_neg (by simp)] at hu
   simp only[Lib.parseUint10] at hu;rw[if_pos (by omega)] at hu
   split at hu
   ·cases hu
   ·split at hu
    ·cases hu
    ·have:=parseUint10_ge r _ u hu
     have hp:10 ^ 18≤10 ^ r.length:=Nat.pow_le_pow_right (by omega) hr
     have h3:1*10 ^ r.length≤(0*10+(c.toNat-48))*10 ^ r.length:=Nat.mul_le_mul_right _ (by omega)
     have h4:(10:Nat) ^ 18=1000000000000000000:=by decide
     omega
theorem atoi_neg{r:List UInt8}{v:Int}(h:Lib.atoiAll (45::r)=.ok v):v≤0:=by
 unfold Lib.atoiAll at h;simp only at h
 split at h
 ·cases h
 ·cases h
 ·rename_i u hu
  split at h
  ·cases h
  ·split at h
   ·cases h
   ·simp only[Lib.NumEnd.ok.injEq] at h;rw[if_pos (by decide)] at h
    omega
theorem textK_pre(l:List Nat)(pre:List UInt8):∀ k,∃ t,textK l pre k=pre++t
 | 0=>⟨[],by simp[textK]⟩
 | k+1=>by
   obtain⟨t,ht⟩:=textK_pre l pre k;exact⟨t++_,by rw[textK,ht,List.append_assoc]⟩
theorem small_far{z:Int}(hz:¬ near z)(h2:(smallV z).2=true)(h1:1≤(smallV z).1):1073741824<(smallV z).1:=by
 unfold smallV at h1 h2 ⊢;rw[if_neg hz] at h1 h2 ⊢
 by_cases h3:3<(limbs z.natAbs).length
 ·rw[if_pos h3] at h2;cases h2
 ·rw[if_neg h3] at h1 h2 ⊢
  by_cases hneg:z<0
  ·obtain⟨t,ht⟩:=textK_pre (limbs z.natAbs) [45] (limbs z.natAbs).length;have e:textF (decide (z<0)) (limbs z.natAbs)=45::t:=by
    unfold textF;rw[if_pos (by simpa using hneg),ht];rfl
   rw[e] at h1 h2 ⊢
   cases ha:Lib.atoiAll (45::t) with
   | ok v=>
     rw[ha] at h1;have:=atoi_neg ha;dsimp only at h1;omega
   | range=>rw[ha] at h2;cases h2
   | _=>rw[ha] at h2;cases h2
  ·have hbig:1000000000000000000≤z.natAbs:=by unfold near at hz;omega
   have hv:=valL_limbs z.natAbs
   have hlt:=limbs_lt z.natAbs
   have e:decide (z<0)=false:=by simpa using hneg
   rw[e] at h1 h2 ⊢;generalize limbs z.natAbs=l at *
   match l,h3,hv,hlt with
   | [],_,hv,_=>simp[valL] at hv;omega
   | [a],_,hv,hlt=>
    have:=hlt a (by simp)
    simp[valL] at hv;omega
   | [a,b],_,hv,hlt=>
    have:=hlt a (by simp)
    have:=hlt b (by simp)
    simp[valL] at hv;omega
   | [a,b,c],_,hv,hlt=>
    have ha:=hlt a (by simp)
    have hb:=hlt b (by simp)
    have hc:1≤c:=by simp[valL] at hv;omega
    obtain⟨d,r,hd,d1,d2⟩:=decDigits_head c hc;have et:textF false [a,b,c]=d::(r++((Lib.repeatL [48] (9-(Lib.itoa (b:Int)).length)++Lib.itoa (b:Int))++(Lib.repeatL [48] (9-(Lib.itoa (a:Int)).length)++Lib.itoa (a:Int)))):=by
     unfold textF;simp only[textK,List.length_cons,List.length_nil,Nat.zero_add,List.getD_cons_succ,List.getD_cons_zero,Bool.false_eq_true,if_false,if_true,List.nil_append,List.append_assoc];rw[show Lib.itoa ((c:Nat):Int)=d::r from by rw[Lib.itoa_nonneg,hd]]
     simp
    rw[et] at h1 h2 ⊢;have hlen:18≤(r++((Lib.repeatL [48] (9-(Lib.itoa (b:Int)).length)++Lib.itoa (b:Int))++(Lib.repeatL [48] (9-(Lib.itoa (a:Int)).length)++Lib.itoa (a:Int)))).length:=by
     simp only[List.length_append,Lib.repeatL_length,List.length_singleton,Nat.mul_one];omega
    generalize (r++((Lib.repeatL [48] (9-(Lib.itoa (b:Int)).length)++Lib.itoa (b:Int))++(Lib.repeatL [48] (9-(Lib.itoa (a:Int)).length)++Lib.itoa (a:Int))))=rr at *
    cases hat:Lib.atoiAll (d::rr) with
    | ok v=>exact atoi_far d1 d2 hlen hat
    | range=>rw[hat] at h2;cases h2
    | _=>rw[hat] at h2;cases h2
   | a::b::c::d::l,h3,_,_=>simp at h3
theorem hasPrefix_one{l:List UInt8}{c:UInt8}(h:Lib.hasPrefix l [c]=true):∃ r,l=c::r∧Lib.trimPrefix l [c]=r:=by
 cases l with
 | nil=>simp[Lib.hasPrefix,List.isPrefixOf] at h
 | cons d r=>
   have:d=c:=by
    simp[Lib.hasPrefix,List.isPrefixOf] at h
    exact h.symm
   subst this;exact⟨r,rfl,by unfold Lib.trimPrefix;rw[if_pos h];rfl⟩
theorem trimPrefix_no{l p:List UInt8}(h:Lib.hasPrefix l p=false):Lib.trimPrefix l p=l:=by
 unfold Lib.trimPrefix;rw[if_neg (by rw[h];decide)]
theorem decV_pos:∀ (d:List UInt8) (c:UInt8),digitB c=true→c≠48→1≤decV (c::d):=by
 intro d c hc h0;have h1:c.toNat≠48:=fun e=>h0 (UInt8.toNat_inj.1 (by rw[e];rfl))
 unfold digitB at hc
 simp at hc
 have key:∀ (l:List UInt8) (n:Nat),1≤n→1≤l.foldl (fun n c=>10*n+(c.toNat-48)) n:=by
  intro l
  induction l with
  | nil=>intro n hn;exact hn
  | cons x l ih=>intro n hn;exact ih (10*n+(x.toNat-48)) (by omega)
 unfold decV;exact key d (10*0+(c.toNat-48)) (by omega)
theorem digit_back{c:UInt8}(h:digitB c=true):UInt8.ofNat (48+(c.toNat-48))=c:=by
 unfold digitB at h
 simp at h
 rw[show 48+(c.toNat-48)=c.toNat by omega]
 exact UInt8.ofNat_toNat
theorem decDigits_decV:∀ (n:Nat) (d:List UInt8),d.length=n→d≠[]→(∀ c∈d,digitB c=true)→d.head?≠some 48∨d=[48]→Lib.decDigits (decV d)=d
 | 0,d,hn,hne,_,_=>absurd (List.eq_nil_of_length_eq_zero hn) hne
 | n+1,d,hn,hne,hd,hh=>by
   obtain⟨d,c,rfl⟩:∃ i c,d=i++[c]:=⟨d.dropLast,d.getLast hne,(List.dropLast_concat_getLast hne).symm⟩;have hc:=hd c (by simp)
   have hcb:=hc
   unfold digitB at hcb
   simp at hcb
   rw[decV_snoc]
   by_cases he:d=[]
   ·subst he;rw[Lib.decDigits,dif_pos (by simp[decV];omega)]
    simp only[decV,List.foldl_nil,List.nil_append,Nat.mul_zero,Nat.zero_add];rw[digit_back hc]
   ·obtain⟨x,xs,rfl⟩:=List.exists_cons_of_ne_nil he;have hh':(x::xs).head?≠some 48:=by
     rcases hh with h | h
     ·simpa using h
     ·simp at h
    have hx:x≠48:=fun e=>hh' (by rw[e];rfl)
    have hp:=decV_pos xs x (hd x (by simp)) hx
    have ih:=decDigits_decV n (x::xs) (by simpa using hn) (by simp) (fun y hy=>hd y (List.mem_append_left _ hy)) (.inl hh')
    rw[Lib.decDigits,dif_neg (by omega),show(10*decV (x::xs)+(c.toNat-48)) / 10=decV (x::xs) by omega,show(10*decV (x::xs)+(c.toNat-48)) % 10=c.toNat-48 by omega,
     ih,digit_back hc]
theorem digitB_good{c:UInt8}(h:digitB c=true):GoodB c:=by
 unfold digitB at h
 simp at h
 unfold GoodB;omega
theorem parseI_good{l:List UInt8}(h:(parseI l).isSome=true):GoodL l:=by
 unfold parseI at h;dsimp only at h
 split at h
 ·cases h
 ·rename_i hn
  have h1:Lib.trimPrefix l [45]≠[]:=fun e=>hn (.inl e)
  have h2:(Lib.trimPrefix l [45]).all digitB=true:=by
   cases hb:(Lib.trimPrefix l [45]).all digitB
   ·exact absurd (.inr (.inr hb)) hn
   ·rfl
  cases hp:Lib.hasPrefix l [45] with
  | true=>
    obtain⟨r,rfl,hr⟩:=hasPrefix_one hp;rw[hr] at h1 h2;refine⟨by simp,fun c hc=>?_⟩
    rcases List.mem_cons.1 hc with rfl | hc
    ·unfold GoodB;decide
    ·exact digitB_good (List.all_eq_true.1 h2 c hc)
  | false=>
    rw[trimPrefix_no hp] at h1 h2;exact⟨h1,fun c hc=>digitB_good (List.all_eq_true.1 h2 c hc)⟩
theorem isNumV_good{l:List UInt8}{low:Int}(h:isNumV l low=true):GoodL l:=by
 unfold isNumV at h;simp only[Bool.and_eq_true] at h;exact parseI_good h.1
theorem parseI_pos{l:List UInt8}{z:Int}(h:parseI l=some z)(hz:1≤z):l=Lib.itoa z:=by
 unfold parseI at h;dsimp only at h
 split at h
 ·cases h
 ·rename_i hn
  have h1:Lib.trimPrefix l [45]≠[]:=fun e=>hn (.inl e)
  have h2:(Lib.trimPrefix l [45]).all digitB=true:=by
   cases hb:(Lib.trimPrefix l [45]).all digitB
   ·exact absurd (.inr (.inr hb)) hn
   ·rfl
  cases hp:Lib.hasPrefix l [45] with
  | true=>
    rw[hp] at h;simp only[if_true,Option.some.injEq] at h;omega
  | false=>
    rw[hp] at h;rw[trimPrefix_no hp] at h h1 h2 hn;simp only[Bool.false_eq_true,if_false,Option.some.injEq] at h;have h3:l.head?≠some 48∨l=[48]:=by
     by_cases hl:l=[48]
     ·exact .inr hl
     ·exact .inl fun e=>hn (.inr (.inl ⟨e,hl⟩))
    rw[← h,Lib.itoa_nonneg,decDigits_decV _ l rfl h1 (List.all_eq_true.1 h2) h3]
theorem litV_back(w:ByteArray)(h:litV w.data.toList≠0):litT (litV w.data.toList)=w∧GoodL w.data.toList∧-1073741824≤litV w.data.toList∧litV w.data.toList≤1073741824:=by
 generalize hw:w.data.toList=l at *;unfold litV at h;dsimp only at h
 split at h
 ·exact absurd rfl h
 ·rename_i hn
  have a1:Lib.hasPrefix (Lib.trimPrefix l [126]) [120]=true:=by
   cases hb:Lib.hasPrefix (Lib.trimPrefix l [126]) [120]
   ·exact absurd (.inl hb) hn
   ·rfl
  have a2:(parseI (Lib.trimPrefix (Lib.trimPrefix l [126]) [120])).isSome=true:=by
   cases hb:(parseI (Lib.trimPrefix (Lib.trimPrefix l [126]) [120])).isSome
   ·exact absurd (.inr (.inl hb)) hn
   ·rfl
  obtain⟨d,hd1,hd2⟩:=hasPrefix_one a1;rw[hd2] at a2;obtain⟨z,hz⟩:=Option.isSome_iff_exists.1 a2;have hl:litV l=if Lib.hasPrefix l [126] then -(smallV z).1 else (smallV z).1:=by
   unfold litV;dsimp only;rw[if_neg hn,hd2,hz];rfl
  rw[hd2,hz] at hn;simp only[Option.getD_some] at hn;have a3:(smallV z).2=true:=by
   cases hb:(smallV z).2
   ·exact absurd (.inr (.inr (.inl hb))) hn
   ·rfl
  have a4:¬ (smallV z).1<1:=fun hb=>hn (.inr (.inr (.inr (.inl hb))))
  have a5:¬ 1073741824<(smallV z).1:=fun hb=>hn (.inr (.inr (.inr (.inr hb))))
  have hnear:near z:=by
   by_cases hq:near z
   ·exact hq
   ·exact absurd (small_far hq a3 (by omega)) a5
  have hs:(smallV z).1=z:=by unfold smallV;rw[if_pos hnear]
  rw[hs] at a4 a5 hl;have hdz:=parseI_pos hz (by omega)
  have hgd:=parseI_good (l:=d) (by rw[hz];rfl)
  cases hp:Lib.hasPrefix l [126] with
  | true=>
    obtain⟨r,rfl,hr⟩:=hasPrefix_one hp;rw[hr] at hd1;subst hd1;rw[hl,hp];simp only[if_true];refine⟨?_,⟨by simp,fun c hc=>?_⟩,by omega,by omega⟩
    ·apply bytes_inj
     rw[hw];unfold litT;rw[if_pos (by omega),show IntKind.i64.wrap (0 - -z)=z by rw[show 0 - -z=z by omega];exact wrap_i64 (by omega) (by omega)]
     simp[itoaS,hdz]
    ·rcases List.mem_cons.1 hc with rfl | hc
     ·unfold GoodB;decide
     ·rcases List.mem_cons.1 hc with rfl | hc
      ·unfold GoodB;decide
      ·exact hgd.2 c hc
  | false=>
    rw[trimPrefix_no hp] at hd1;subst hd1;rw[hl,hp];simp only[Bool.false_eq_true,if_false];refine⟨?_,⟨by simp,fun c hc=>?_⟩,by omega,by omega⟩
    ·apply bytes_inj
     rw[hw];unfold litT;rw[if_neg (by omega)]
     simp[itoaS,hdz]
    ·rcases List.mem_cons.1 hc with rfl | hc
     ·unfold GoodB;decide
     ·exact hgd.2 c hc
def J(ws:List ByteArray):ByteArray:=joinS ws spaceS
theorem J_data(ws:List ByteArray):(J ws).data.toList=Lib.join (ws.map (·.data.toList)) [32]:=by simp[J,joinS];rfl
theorem J_one(w:ByteArray):J [w]=w:=by
 apply bytes_inj
 rw[J_data]
 simp[Lib.join_one]
theorem joinTail_app(sep:List UInt8)(a b:List (List UInt8)):Lib.joinTail sep (a++b)=Lib.joinTail sep a++Lib.joinTail sep b:=by simp[Lib.joinTail]
theorem joinTail_flat(sep:List UInt8):∀ lls:List (List (List UInt8)),(∀ l∈lls,l≠[])→Lib.joinTail sep (lls.map (Lib.join · sep))=Lib.joinTail sep lls.flatten
 | [],_=>rfl
 | l::lls,h=>by
   have ih:=joinTail_flat sep lls fun x hx=>h x (by simp[hx])
   obtain⟨x,r,rfl⟩:=List.exists_cons_of_ne_nil (h l (by simp))
   rw[List.flatten_cons,joinTail_app,← ih]
   simp[Lib.joinTail,Lib.join_cons]
theorem join_flat(sep:List UInt8)(lls:List (List (List UInt8)))(h:∀ l∈lls,l≠[]):Lib.join (lls.map (Lib.join · sep)) sep=Lib.join lls.flatten sep:=by
 cases lls with
 | nil=>rfl
 | cons l lls=>
   obtain⟨x,r,rfl⟩:=List.exists_cons_of_ne_nil (h l (by simp))
   rw[List.map_cons,Lib.join_cons,joinTail_flat sep lls fun y hy=>h y (by simp[hy]),List.flatten_cons,List.cons_append,Lib.join_cons x r,Lib.join_cons x (r++lls.flatten),joinTail_app,List.append_assoc]
theorem J_flat(lls:List (List ByteArray))(h:∀ l∈lls,l≠[]):J (lls.map J)=J lls.flatten:=by
 apply bytes_inj
 rw[J_data,J_data];have e1:(lls.map J).map (·.data.toList)=(lls.map (fun l=>l.map (·.data.toList))).map (Lib.join · [32]):=by
  rw[List.map_map,List.map_map]
  apply List.map_congr_left
  intro l _;exact J_data l
 rw[e1,join_flat [32] _ (fun l hl=>by
  obtain⟨y,hy,rfl⟩:=List.mem_map.1 hl
  simpa using h y hy),List.map_flatten]
abbrev GoodW (w:ByteArray):Prop:=GoodL w.data.toList
instance (c:UInt8):Decidable (GoodB c):=inferInstanceAs (Decidable (_∧_))
theorem good_of(w:ByteArray)(h:(decide (w.data.toList≠[]) && w.data.toList.all fun c=>decide (GoodB c))=true):GoodW w:=by
 simp only[Bool.and_eq_true,decide_eq_true_eq,List.all_eq_true] at h;exact h
theorem numG_inv{low:Int}{l rest:List ByteArray}{x:ByteArray}(h:numG low l=(x,0,rest)):l=x::rest∧GoodW x:=by
 cases l with
 | nil=>simp[numG] at h
 | cons w l=>
   simp only[numG] at h
   split at h
   ·rename_i hw
    simp only[Prod.mk.injEq,true_and] at h;obtain⟨rfl,rfl⟩:=h;exact⟨rfl,isNumV_good hw⟩
   ·simp at h
theorem exactG_inv:∀ {l xs rest:List ByteArray},exactG l xs=(rest,0)→l=xs++rest
 | l,[],rest,h=>by
   cases l<;>simpa [exactG] using h
 | [],x::xs,rest,h=>by simp[exactG] at h
 | w::l,x::xs,rest,h=>by
   unfold exactG at h
   split at h
   ·rename_i hw
    rw[hw,exactG_inv h];rfl
   ·simp at h
theorem idsG_inv:∀ {ws ids ids' rest:List ByteArray},idsG ws ids=(ids',0,rest)→rest=[]∧ids'=ids++ws∧∀ w∈ws,GoodW w
 | [],ids,ids',rest,h=>by
  simp[idsG] at h
  simp[h.1,h.2]
 | w::l,ids,ids',rest,h=>by
   unfold idsG at h
   split at h
   ·rename_i hw
    obtain⟨h1,h2,h3⟩:=idsG_inv h;refine⟨h1,by rw[h2];simp,fun x hx=>?_⟩
    rcases List.mem_cons.1 hx with rfl | hx
    ·exact isNumV_good hw
    ·exact h3 x hx
   ·simp at h
theorem litsG_inv:∀ {ws:List ByteArray} {ls ls':List Int} {rest:List ByteArray},litsG ws ls=(ls',0,rest)→rest=[]∧∃ q,ls'=ls++q∧litsT q=ws∧(∀ w∈ws,GoodW w)∧∀ z∈q,okI z
 | [],ls,ls',rest,h=>by
  simp[litsG] at h
  exact⟨h.2,[],by simp[h.1],rfl,by simp,by simp⟩
 | w::l,ls,ls',rest,h=>by
   unfold litsG at h
   split at h
   ·simp at h
   ·rename_i hw
    obtain⟨h1,q,h2,h3,h4,h5⟩:=litsG_inv h;obtain⟨b1,b2,b3,b4⟩:=litV_back w hw;refine⟨h1,litV w.data.toList::q,by rw[h2];simp,?_,fun x hx=>?_,fun z hz=>?_⟩
    ·simp only[litsT,List.map_cons] at h3 ⊢;rw[b1,h3]
    ·rcases List.mem_cons.1 hx with rfl | hx
     ·exact b2
     ·exact h4 x hx
    ·rcases List.mem_cons.1 hz with rfl | hz
     ·unfold okI;omega
     ·exact h5 z hz
theorem pieceG_inv:∀ (ws:List ByteArray) (p p':List (ByteArray×Int)) (rest:List ByteArray),pieceG ws p=(p',0,rest)→
 ∃ q r,p'=p++q∧rest=geS::r∧ws=pieceT q++rest∧(∀ w∈pieceT q,GoodW w)∧∀ x∈q,okI x.2∧x.1∈ws
 | [],p,p',rest,h=>by simp[pieceG] at h
 | [w],p,p',rest,h=>by
  unfold pieceG at h
  split at h
  ·rename_i hw
   simp only[Prod.mk.injEq,true_and] at h;exact⟨[],[],by simp[h.1],by rw[← h.2,hw],by simp[pieceT,h.2],by simp[pieceT],by simp⟩
  ·split at h<;>simp at h
 | w::x::l,p,p',rest,h=>by
   unfold pieceG at h
   split at h
   ·rename_i hw
    simp only[Prod.mk.injEq,true_and] at h;exact⟨[],x::l,by simp[h.1],by rw[← h.2,hw],by simp[pieceT,h.2],by simp[pieceT],by simp⟩
   ·split at h
    ·rename_i hn
     split at h
     ·simp at h
     ·rename_i hx
      obtain⟨q,r,h1,h2,h3,h4,h5⟩:=pieceG_inv l _ p' rest h;obtain⟨b1,b2,b3,b4⟩:=litV_back x hx;refine⟨(w,litV x.data.toList)::q,r,by rw[h1];simp,h2,?_,fun y hy=>?_,fun y hy=>?_⟩
      ·simp only[pieceT,List.flatMap_cons,b1] at h3 ⊢;rw[h3];rfl
      ·simp only[pieceT,List.flatMap_cons,b1,List.cons_append,List.nil_append,List.mem_cons] at hy
       rcases hy with rfl | rfl | hy
       ·exact isNumV_good hn
       ·exact b2
       ·exact h4 y hy
      ·rcases List.mem_cons.1 hy with rfl | hy
       ·exact⟨by unfold okI;dsimp only;omega,by simp⟩
       ·exact⟨(h5 y hy).1,by simp[(h5 y hy).2]⟩
    ·simp at h
theorem rowG_inv{ws rest:List ByteArray}{v v':StepV}(h:rowG ws v=(0,rest,v')):∃ q b,v'={ v with pieces:=v.pieces++q,bound:=b }∧ws=(pieceT q++[geS,b,semiS])++rest∧(∀ w∈pieceT q++[geS,b,semiS],GoodW w)∧∀ x∈q,okI x.2∧x.1∈ws:=by
 unfold rowG at h
 rcases hp:pieceG ws v.pieces with ⟨p',e,rest'⟩
 rw[hp] at h;dsimp only at h
 split at h
 ·rename_i he
  subst he;obtain⟨q,r,h1,h2,h3,h4,h5⟩:=pieceG_inv _ _ _ _ hp;subst h2;rw[List.tail_cons] at h;unfold boundG at h
  rcases hn:numG (-1) r with ⟨b,e2,r2⟩
  rw[hn] at h;dsimp only at h
  split at h
  ·rename_i he2
   subst he2;obtain⟨n1,n2⟩:=numG_inv hn
   rcases hx:exactG r2 [semiS] with ⟨r3,e3⟩
   rw[hx] at h;simp only[Prod.mk.injEq] at h;obtain⟨rfl,rfl,rfl⟩:=h;have hx':=exactG_inv hx;refine⟨q,b,by rw[h1],by rw[h3,n1,hx'];simp,fun w hw=>?_,h5⟩
   simp only[List.mem_append,List.mem_cons,List.not_mem_nil,or_false] at hw
   rcases hw with hw | rfl | rfl | rfl
   ·exact h4 w hw
   ·exact good_of _ (by decide)
   ·exact n2
   ·exact good_of _ (by decide)
  ·rename_i he2
   simp only[Prod.mk.injEq] at h;exact absurd h.1 he2
 ·rename_i he
  simp only[Prod.mk.injEq] at h;exact absurd h.1 he
def starS:ByteArray:=⟨#[42]⟩
def dS:ByteArray:=⟨#[100]⟩
def wS:ByteArray:=⟨#[119]⟩
def opW(o:OpV):List ByteArray:=
 if o.1=1 then [o.2.1] else if o.1=2 then [litT o.2.2] else if o.1=3 then [plusS] else if o.1=4 then [o.2.1,starS] else if o.1=5 then [o.2.1,dS] else if o.1=6 then [sS] else if o.1=7 then [litT o.2.2,wS] else [⟨#[]⟩]
theorem opW_ne(o:OpV):opW o≠[]:=by
 unfold opW
 repeat' split
 all_goals simp
theorem J_two(a b:ByteArray):J [a,b]=a++((⟨#[32]⟩:ByteArray)++b):=by
 apply bytes_inj
 rw[J_data]
 simp[Lib.join,List.intercalate]
theorem opT_J(o:OpV):opT o=J (opW o):=by
 unfold opT opW
 repeat' split
 all_goals first
  | rw[J_one]
  | (rw[J_two];rfl)
  | rfl
 all_goals rfl
theorem behindN_inv{l rest:List ByteArray}{k:Int}(h:behindG tbN l 1=(k,rest)):(k=1∧l=rest)∨(k=4∧l=starS::rest)∨(k=5∧l=dS::rest):=by
 cases l with
 | nil=>simp[behindG] at h;exact .inl ⟨h.1.symm,h.2.symm⟩
 | cons w l=>
   unfold behindG tbN at h;simp only[List.find?_cons,List.find?_nil] at h
   by_cases h1:(⟨#[42]⟩:ByteArray)=w
   ·simp[h1] at h
    exact .inr (.inl ⟨h.1.symm,by rw[← h1,h.2];rfl⟩)
   ·by_cases h2:(⟨#[100]⟩:ByteArray)=w
    ·simp[h1,h2] at h
     exact .inr (.inr ⟨h.1.symm,by rw[← h2,h.2];rfl⟩)
    ·simp[h1,h2] at h
     exact .inl ⟨h.1.symm,h.2⟩
theorem behindL_inv{l rest:List ByteArray}{k:Int}(h:behindG tbL l 2=(k,rest)):(k=2∧l=rest)∨(k=7∧l=wS::rest):=by
 cases l with
 | nil=>simp[behindG] at h;exact .inl ⟨h.1.symm,h.2.symm⟩
 | cons w l=>
   unfold behindG tbL at h;simp only[List.find?_cons,List.find?_nil] at h
   by_cases h1:(⟨#[119]⟩:ByteArray)=w
   ·simp[h1] at h
    exact .inr ⟨h.1.symm,by rw[← h1,h.2];rfl⟩
   ·simp[h1] at h
    exact .inl ⟨h.1.symm,h.2⟩
theorem opG_inv{ws rest:List ByteArray}{o:OpV}(h:opG ws=(o,0,rest)):ws=opW o++rest∧(∀ w∈opW o,GoodW w)∧okI o.2.2∧(o.2.1=ByteArray.empty∨o.2.1∈ws):=by
 cases ws with
 | nil=>simp[opG] at h
 | cons w l=>
   unfold opG at h;dsimp only at h;have ok0:okI 0:=⟨by decide,by decide⟩
   split at h
   ·rename_i hw
    simp only[Prod.mk.injEq,true_and] at h;obtain⟨rfl,rfl⟩:=h;exact⟨by rw[hw];rfl,fun x hx=>by
     obtain rfl:x=plusS:=by simpa [opW] using hx
     exact good_of _ (by decide),ok0,.inl rfl⟩
   split at h
   ·rename_i hw
    simp only[Prod.mk.injEq,true_and] at h;obtain⟨rfl,rfl⟩:=h;exact⟨by rw[hw];rfl,fun x hx=>by
     obtain rfl:x=sS:=by simpa [opW] using hx
     exact good_of _ (by decide),ok0,.inl rfl⟩
   split at h
   ·rename_i hw
    have hg:GoodW w:=isNumV_good hw
    rcases hb:behindG tbN l 1 with ⟨k,r2⟩
    rw[hb] at h;simp only[Prod.mk.injEq,true_and] at h;obtain⟨rfl,rfl⟩:=h
    rcases behindN_inv hb with ⟨k1,k2⟩ | ⟨k1,k2⟩ | ⟨k1,k2⟩
    ·rw[k1,k2];exact⟨rfl,fun x hx=>by
      obtain rfl:x=w:=by simpa [opW] using hx
      exact hg,ok0,.inr (by simp)⟩
    ·rw[k1,k2];exact⟨rfl,fun x hx=>by
      have:x=w∨x=starS:=by simpa [opW] using hx
      rcases this with rfl | rfl
      ·exact hg
      ·exact good_of _ (by decide),ok0,.inr (by simp)⟩
    ·rw[k1,k2];exact⟨rfl,fun x hx=>by
      have:x=w∨x=dS:=by simpa [opW] using hx
      rcases this with rfl | rfl
      ·exact hg
      ·exact good_of _ (by decide),ok0,.inr (by simp)⟩
   split at h
   ·simp at h
   split at h
   ·rename_i hw
    obtain⟨b1,b2,b3,b4⟩:=litV_back w (by omega)
    have ok1:okI (litV w.data.toList):=by unfold okI;omega
    rcases hb:behindG tbL l 2 with ⟨k,r2⟩
    rw[hb] at h;simp only[Prod.mk.injEq,true_and] at h;obtain⟨rfl,rfl⟩:=h
    rcases behindL_inv hb with ⟨k1,k2⟩ | ⟨k1,k2⟩
    ·rw[k1,k2];exact⟨by simp[opW,b1],fun x hx=>by
      obtain rfl:x=w:=by simpa [opW,b1] using hx
      exact b2,ok1,.inl rfl⟩
    ·rw[k1,k2];exact⟨by simp[opW,b1],fun x hx=>by
      have:x=w∨x=wS:=by simpa [opW,b1] using hx
      rcases this with rfl | rfl
      ·exact b2
      ·exact good_of _ (by decide),ok1,.inl rfl⟩
   split at h
   ·rename_i hw
    obtain⟨b1,b2,b3,b4⟩:=litV_back w (by omega)
    have ok1:okI (litV w.data.toList):=by unfold okI;omega
    simp only[Prod.mk.injEq,true_and] at h;obtain⟨rfl,rfl⟩:=h;exact⟨by simp[opW,b1],fun x hx=>by
     obtain rfl:x=w:=by simpa [opW,b1] using hx
     exact b2,ok1,.inl rfl⟩
   ·simp at h
theorem polF_inv:∀ (f:Nat) (ws:List ByteArray) (ops ops':List OpV),polF f ws ops=(ops',0,[])→
 ∃ q,ops'=ops++q∧ws=q.flatMap opW∧(∀ w∈ws,GoodW w)∧∀ o∈q,okI o.2.2∧(o.2.1=ByteArray.empty∨o.2.1∈ws)
 | 0,ws,ops,ops',h=>by
   simp only[polF,Prod.mk.injEq,true_and] at h;obtain⟨rfl,rfl⟩:=h;exact⟨[],by simp,rfl,by simp,by simp⟩
 | f+1,ws,ops,ops',h=>by
   unfold polF at h
   split at h
   ·rcases ho:opG ws with ⟨o,e,rest⟩
    rw[ho] at h;dsimp only at h
    split at h
    ·rename_i he
     subst he;obtain⟨o1,o2,o3,o4⟩:=opG_inv ho;obtain⟨q,h1,h2,h3,h4⟩:=polF_inv f _ _ _ h;refine⟨o::q,by rw[h1];simp,by rw[o1,h2];rfl,fun w hw=>?_,fun y hy=>?_⟩
     ·rw[o1] at hw
      rcases List.mem_append.1 hw with hw | hw
      ·exact o2 w hw
      ·exact h3 w hw
     ·rcases List.mem_cons.1 hy with rfl | hy
      ·exact⟨o3,o4⟩
      ·exact⟨(h4 y hy).1,(h4 y hy).2.imp id fun hm=>by rw[o1];exact List.mem_append_right _ hm⟩
    ·rename_i he
     simp only[Prod.mk.injEq] at h;exact absurd h.2.1 he
   ·simp only[Prod.mk.injEq,true_and] at h;obtain⟨rfl,rfl⟩:=h;exact⟨[],by simp,rfl,by simp,by simp⟩
theorem idG_inv{ws rest:List ByteArray}{v v':StepV}(h:idG ws v=(0,rest,v')):(v'=v∧rest=ws)∨∃ x,ws=colonS::x::rest∧GoodW x∧v'={ v with ids:=[x] }:=by
 unfold idG at h
 split at h
 ·rename_i hc
  obtain⟨l,rfl⟩:∃ l,ws=colonS::l:=by
   cases ws with
   | nil=>simp at hc
   | cons a l=>exact⟨l,by simp at hc;rw[hc]⟩
  rw[List.tail_cons] at h
  rcases hn:numG 1 l with ⟨x,e,r⟩
  rw[hn] at h;dsimp only at h
  split at h
  ·rename_i he
   subst he;obtain⟨n1,n2⟩:=numG_inv hn;simp only[Prod.mk.injEq,true_and] at h;obtain⟨rfl,rfl⟩:=h;exact .inr ⟨x,by rw[n1],n2,rfl⟩
  ·rename_i he
   simp only[Prod.mk.injEq] at h;exact absurd h.1 he
 ·simp only[Prod.mk.injEq,true_and] at h;exact .inl ⟨h.2.symm,h.1.symm⟩
structure RT (ws:List ByteArray) (v:StepV):Prop where
 good:∀ w∈ws,GoodW w
 text:textT v=J ws
 ok:ws.length≤1000000→(∀ w∈ws,w.size≤10000000)→OkStep v
theorem good_all(ws:List ByteArray)(h:(ws.all fun w=>decide (w.data.toList≠[]) && w.data.toList.all fun c=>decide (GoodB c))=true):∀ w∈ws,GoodW w:=fun w hw=>good_of w (List.all_eq_true.1 h w hw)
theorem good_cons{w:ByteArray}{l:List ByteArray}(h1:GoodW w)(h2:∀ x∈l,GoodW x):∀ x∈w::l,GoodW x:=fun x hx=>by
 rcases List.mem_cons.1 hx with rfl | hx
 ·exact h1
 ·exact h2 x hx
theorem okS{v:StepV}(h1:v.ops.length≤1000000:=by simp[zeroV])(h2:∀ o∈v.ops,okI o.2.2∧o.2.1.size≤10000000:=by simp[zeroV])(h3:v.pieces.length≤1000000:=by simp[zeroV])(h4:∀ p∈v.pieces,okI p.2∧p.1.size≤10000000:=by simp[zeroV])(h5:v.bound.size≤10000000:=by simp[zeroV])
 (h6:v.lits.length≤1000000:=by simp[zeroV]) (h7:∀ z∈v.lits,okI z:=by simp[zeroV]) (h8:v.ids.length≤1000000:=by simp[zeroV]) (h9:∀ x∈v.ids,x.size≤10000000:=by simp[zeroV]) (h10:v.num.size≤10000000:=by simp[zeroV]) (h11:v.s7.size≤10000000:=by simp[zeroV]) (h12:v.s8.size≤10000000:=by simp[zeroV]):OkStep v:=
 ⟨⟨h1,h2⟩,⟨h3,h4,h5⟩,⟨h6,h7⟩,⟨h8,h9⟩,h10,h11,h12⟩
theorem singles_J(l:List ByteArray):(l.map fun x=>[x]).map J=l:=by
 rw[List.map_map];conv=>rhs;rw[← List.map_id l]
 exact List.map_congr_left fun x _=>J_one x
theorem singles_flat(l:List ByteArray):(l.map fun x=>[x]).flatten=l:=by
 induction l with
 | nil=>rfl
 | cons x l ih=>simp[ih]
theorem rowT_J(ps:List (ByteArray×Int))(b:ByteArray):rowT ps b=J (pieceT ps++[geS,b,semiS]):=rfl
theorem fix_rt{k:Int}{w:ByteArray}{xs l:List ByteArray}{v:StepV}(h:fixG k xs l zeroV=(0,[],v)):l=xs∧v={ zeroV with kind:=k }:=by
 unfold fixG at h
 rcases hx:exactG l xs with ⟨r,e⟩
 rw[hx] at h;simp only[Prod.mk.injEq] at h;obtain⟨rfl,rfl,rfl⟩:=h;exact⟨by rw[exactG_inv hx,List.append_nil],rfl⟩
theorem count_rt{l:List ByteArray}{v:StepV}(h:countG l zeroV=(0,[],v)):RT (kF::l) v:=by
 unfold countG at h
 rcases hx:numG 0 l with ⟨x,e,r⟩
 rw[hx] at h;simp only[Prod.mk.injEq] at h;obtain⟨rfl,rfl,rfl⟩:=h;obtain⟨rfl,hg⟩:=numG_inv hx;exact⟨good_cons (good_of _ (by decide)) (good_cons hg (by simp)),by simp[textT,textW,J],fun hl hs=>okS (h10:=hs x (by simp))⟩
theorem flat_len(q:List OpV):q.length≤(q.flatMap opW).length:=by
 induction q with
 | nil=>simp
 | cons o q ih=>
   have:1≤(opW o).length:=List.length_pos_iff.2 (opW_ne o)
   rw[List.flatMap_cons,List.length_append,List.length_cons];omega
theorem pol_text(q:List OpV):J ([kPol]++q.map opT)=J (kPol::q.flatMap opW):=by
 have:=J_flat ([kPol]::q.map opW) (fun l hl=>by
  rcases List.mem_cons.1 hl with rfl | hl
  ·simp
  ·obtain⟨o,_,rfl⟩:=List.mem_map.1 hl;exact opW_ne o)
 rw[List.map_cons,J_one,List.map_map,List.flatten_cons,← List.flatMap_def] at this;rw[show(q.map opT)=q.map (J ∘ opW) from List.map_congr_left fun o _=>opT_J o]
 exact this
theorem pol_rt{l:List ByteArray}{v:StepV}(h:polG l zeroV=(0,[],v)):RT (kPol::l) v:=by
 unfold polG at h
 rcases hx:polF (l.length+2) l zeroV.ops with ⟨ops,e,r⟩
 rw[hx] at h;simp only[Prod.mk.injEq] at h;obtain⟨rfl,rfl,rfl⟩:=h;obtain⟨q,h1,h2,h3,h4⟩:=polF_inv _ _ _ _ hx;have h1:ops=q:=by simpa [zeroV] using h1
 subst h1;refine⟨good_cons (good_of _ (by decide)) h3,?_,fun hl hs=>okS (h1:=?_) (h2:=?_)⟩
 ·rw[h2,← pol_text]
  simp[textT,textW,J]
 ·have:=flat_len ops
  rw[← h2] at this;rw[List.length_cons] at hl
  show ops.length≤_
  omega
 ·intro o ho;refine⟨(h4 o ho).1,?_⟩
  rcases (h4 o ho).2 with h | h
  ·rw[h];decide
  ·exact hs _ (List.mem_cons_of_mem _ h)
theorem row_fit{q:List (ByteArray×Int)}{b:ByteArray}{ws rest:List ByteArray}(hl:ws.length≤1000000)(hs:∀ w∈ws,w.size≤10000000)(h2:ws=(pieceT q++[geS,b,semiS])++rest)(h4:∀ x∈q,okI x.2∧x.1∈ws) :
 q.length≤1000000∧(∀ p∈q,okI p.2∧p.1.size≤10000000)∧b.size≤10000000:=by
 refine⟨?_,fun p hp=>⟨(h4 p hp).1,hs _ (h4 p hp).2⟩,hs _ (by rw[h2];simp)⟩
 have:=pieceT_len q
 have h3:=congrArg List.length h2
 simp at h3
 omega
theorem rup_rt{l:List ByteArray}{v:StepV}(h:rupG l zeroV=(0,[],v)):RT (kRup::l) v:=by
 unfold rupG at h
 rcases hx:rowG l { zeroV with kind:=4 } with ⟨e,r,v1⟩
 rw[hx] at h;dsimp only at h
 split at h
 ·rename_i he
  subst he;obtain⟨q,b,h1,h2,h3,h4⟩:=rowG_inv hx;subst h1;unfold withIds at h
  rcases hi:idsG r zeroV.ids with ⟨ids,e2,r2⟩
  dsimp only at h;rw[hi] at h;simp only[Prod.mk.injEq] at h;obtain⟨rfl,rfl,rfl⟩:=h;obtain⟨_,i2,i3⟩:=idsG_inv hi;have i2:ids=r:=by simpa [zeroV] using i2
  subst i2;have hsub:∀ w∈ids,w∈l:=fun w hw=>by rw[h2];exact List.mem_append_right _ hw
  refine⟨good_cons (good_of _ (by decide)) (fun w hw=>?_),?_,fun hl hs=>?_⟩
  ·rw[h2] at hw
   rcases List.mem_append.1 hw with hw | hw
   ·exact h3 w hw
   ·exact i3 w hw
  ·have:=J_flat ([kRup]::(pieceT q++[geS,b,semiS])::ids.map fun x=>[x]) (fun y hy=>by
    simp only[List.mem_cons,List.mem_map] at hy
    rcases hy with rfl | rfl | ⟨x,_,rfl⟩<;>simp)
   rw[List.map_cons,List.map_cons,J_one,singles_J,List.flatten_cons,List.flatten_cons,singles_flat,← rowT_J] at this;rw[h2];refine Eq.trans ?_ this
   simp[textT,textW,J,zeroV]
  ·have hl':l.length≤1000000:=by rw[List.length_cons] at hl;omega
   have hs':∀ w∈l,w.size≤10000000:=fun w hw=>hs w (List.mem_cons_of_mem _ hw)
   obtain⟨k1,k2,k3⟩:=row_fit hl' hs' h2 h4;refine okS (h3:=by simpa [zeroV] using k1) (h4:=by simpa [zeroV] using k2) (h5:=k3) (h8:=?_) (h9:=fun x hx=>hs' x (hsub x hx))
   have:=congrArg List.length h2
   simp at this
   show ids.length≤_
   omega
 ·rename_i he
  simp only[Prod.mk.injEq] at h;exact absurd h.1 he
theorem sol_rt{k:Int}{w:ByteArray}(hk:(k=5∧w=kSoli)∨(k=11∧w=kSolx)){l:List ByteArray}{v:StepV}(h:solG k l zeroV=(0,[],v)):RT (w::l) v:=by
 unfold solG at h
 rcases hx:litsG l zeroV.lits with ⟨ls,e,r⟩
 rw[hx] at h;simp only[Prod.mk.injEq] at h;obtain⟨rfl,rfl,rfl⟩:=h;obtain⟨_,q,h1,h2,h3,h4⟩:=litsG_inv hx;have h1:ls=q:=by simpa [zeroV] using h1
 subst h1;refine⟨good_cons ?_ h3,?_,fun hl _=>okS (h6:=?_) (h7:=h4)⟩
 ·rcases hk with ⟨_,rfl⟩ | ⟨_,rfl⟩<;>exact good_of _ (by decide)
 ·rcases hk with ⟨rfl,rfl⟩ | ⟨rfl,rfl⟩<;>simp[textT,textW,J,h2]
 ·have:=congrArg List.length h2
  simp[litsT] at this
  rw[List.length_cons] at hl
  show ls.length≤_
  omega
theorem same_rt{l:List ByteArray}{v:StepV}(h:sameG l zeroV=(0,[],v)):RT (kE::l) v:=by
 unfold sameG at h
 rcases hn:numG 1 l with ⟨x,e,r⟩
 rw[hn] at h;dsimp only at h
 split at h
 ·rename_i he
  subst he;obtain⟨rfl,hg⟩:=numG_inv hn;obtain⟨q,b,h1,h2,h3,h4⟩:=rowG_inv h;rw[List.append_nil] at h2;subst h1;refine⟨good_cons (good_of _ (by decide)) (good_cons hg (by rw[h2];exact h3)),?_,fun hl hs=>by
   obtain⟨k1,k2,k3⟩:=row_fit (rest:=[]) (by simp at hl;omega) (fun w hw=>hs w (by simp[hw])) (by rw[List.append_nil];exact h2) h4
   exact okS (h3:=by simpa [zeroV] using k1) (h4:=by simpa [zeroV] using k2) (h5:=k3) (h9:=fun y hy=>by
    obtain rfl:y=x:=by simpa using hy
    exact hs y (by simp))⟩
  have:=J_flat [[kE],[x],pieceT q++[geS,b,semiS]] (fun y hy=>by
   simp only[List.mem_cons,List.not_mem_nil,or_false] at hy
   rcases hy with rfl | rfl | rfl<;>simp)
  simp only[List.map_cons,List.map_nil,J_one,List.flatten_cons,List.flatten_nil,← rowT_J,List.append_nil] at this;rw[h2];refine Eq.trans ?_ this
  simp[textT,textW,J,zeroV]
 ·rename_i he
  simp only[Prod.mk.injEq] at h;exact absurd h.1 he
theorem del_rt{l:List ByteArray}{v:StepV}(h:delG l zeroV=(0,[],v)):RT (kDel::l) v:=by
 unfold delG at h
 rcases hx:exactG l idWords with ⟨r,e⟩
 rw[hx] at h;dsimp only at h
 split at h
 ·rename_i he
  subst he;have hl2:=exactG_inv hx
  rcases hn:numG 1 r with ⟨x,e,r2⟩
  rw[hn] at h;dsimp only at h
  split at h
  ·rename_i he
   subst he;obtain⟨rfl,hg⟩:=numG_inv hn;unfold withIds at h
   rcases hi:idsG r2 [x] with ⟨ids,e2,r3⟩
   rw[hi] at h;simp only[Prod.mk.injEq] at h;obtain⟨rfl,rfl,rfl⟩:=h;obtain⟨_,i2,i3⟩:=idsG_inv hi;subst hl2;have i2:ids=x::r2:=by simpa using i2
   subst i2;refine⟨good_cons (good_of _ (by decide)) (fun w hw=>?_),?_,fun hl hs=>okS (h8:=by simp at hl ⊢;omega) (h9:=fun y hy=>hs y (List.mem_cons_of_mem _ (List.mem_append_right _ hy)))⟩
   ·rcases List.mem_append.1 hw with hw | hw
    ·exact good_all idWords (by decide) w hw
    ·exact good_cons hg i3 w hw
   ·simp[textT,textW,J,zeroV,idWords]
  ·rename_i he
   simp only[Prod.mk.injEq] at h;exact absurd h.1 he
 ·rename_i he
  simp only[Prod.mk.injEq] at h;exact absurd h.1 he
theorem J_cons(a b:ByteArray)(l:List ByteArray):J (a::b::l)=a++((⟨#[32]⟩:ByteArray)++J (b::l)):=by
 apply bytes_inj
 rw[J_data];simp only[List.map_cons,join_len_cons,ByteArray.data_append,Array.toList_append,J_data];rfl
theorem concl_text(v:StepV)(hv:v.kind=9)(l:List ByteArray)(hl:l≠[])(h:endT v=J l):textT v=J (kConc::l):=by
 have:=J_flat [[kConc],l] (fun y hy=>by
  simp only[List.mem_cons,List.not_mem_nil,or_false] at hy
  rcases hy with rfl | rfl
  ·simp
  ·exact hl)
 simp only[List.map_cons,List.map_nil,J_one,List.flatten_cons,List.flatten_nil,List.append_nil,List.singleton_append] at this;rw[← this,← h]
 simp[textT,textW,J,hv]
theorem concl_rt{l:List ByteArray}{v:StepV}(h:conclG l zeroV=(0,[],v)):RT (kConc::l) v:=by
 cases l with
 | nil=>simp[conclG] at h
 | cons w l=>
   unfold conclG at h;dsimp only at h
   split at h
   ·rename_i hw
    simp only[Prod.mk.injEq,true_and] at h;obtain⟨rfl,rfl⟩:=h;subst hw;exact⟨good_all _ (by decide),concl_text _ rfl _ (by simp) (by rw[J_one];rfl),fun _ _=>okS⟩
   split at h
   ·rename_i hw
    simp only[Prod.mk.injEq,true_and] at h;obtain⟨rfl,rfl⟩:=h;subst hw;exact⟨good_all _ (by decide),concl_text _ rfl _ (by simp) (by rw[J_one];rfl),fun _ _=>okS⟩
   split at h
   ·rename_i hw
    subst hw
    rcases idG_inv h with ⟨rfl,rfl⟩ | ⟨x,rfl,hg,rfl⟩
    ·exact⟨good_all _ (by decide),concl_text _ rfl _ (by simp) (by rw[J_one];rfl),fun _ _=>okS⟩
    ·exact⟨good_cons (good_of _ (by decide)) (good_cons (good_of _ (by decide)) (good_cons (good_of _ (by decide)) (good_cons hg (by simp)))),concl_text _ rfl _ (by simp) (by
      rw[J_cons,J_two]
      apply bytes_inj
      simp[endT,idT,zeroV,unsatS,colonS]),fun hl hs=>okS (h9:=fun y hy=>by
      obtain rfl:y=x:=by simpa using hy
      exact hs y (by simp))⟩
   split at h
   ·rename_i hw
    subst hw;unfold allG at h
    rcases hn:numG 0 l with ⟨n,e,r⟩
    rw[hn] at h;dsimp only at h
    split at h
    ·rename_i he
     subst he;obtain⟨rfl,hg⟩:=numG_inv hn
     split at h
     ·simp at h
     ·rename_i hr
      rcases idG_inv h with ⟨_,h2⟩ | ⟨x,rfl,hg2,rfl⟩
      ·exact absurd h2.symm hr
      ·exact⟨good_cons (good_of _ (by decide)) (good_cons (good_of _ (by decide)) (good_cons hg (good_cons (good_of _ (by decide)) (good_cons hg2 (by simp))))),concl_text _ rfl _ (by simp) (by
        rw[J_cons,J_cons,J_two]
        apply bytes_inj
        simp[endT,idT,zeroV,allS,colonS]),fun hl hs=>okS (h9:=fun y hy=>by
        obtain rfl:y=x:=by simpa using hy
        exact hs y (by simp)) (h12:=hs n (by simp))⟩
    ·rename_i he
     simp only[Prod.mk.injEq] at h;exact absurd h.1 he
   split at h
   ·rename_i hw
    subst hw;unfold boundsG at h
    rcases hn:numG (-1) l with ⟨n,e,r⟩
    rw[hn] at h;dsimp only at h
    split at h
    ·rename_i he
     subst he;obtain⟨rfl,hg⟩:=numG_inv hn;unfold upG at h
     rcases hi:idG r { zeroV with kind:=9,n6:=5,s7:=n } with ⟨e2,r2,v2⟩
     rw[hi] at h;dsimp only at h
     split at h
     ·rename_i he2
      subst he2
      rcases hn2:numG (-1) r2 with ⟨n2,e3,r3⟩
      rw[hn2] at h;simp only[Prod.mk.injEq] at h;obtain⟨rfl,rfl,rfl⟩:=h;obtain⟨rfl,hg3⟩:=numG_inv hn2
      rcases idG_inv hi with ⟨rfl,rfl⟩ | ⟨x,rfl,hg2,rfl⟩
      ·exact⟨good_cons (good_of _ (by decide)) (good_cons (good_of _ (by decide)) (good_cons hg (good_cons hg3 (by simp)))),concl_text _ rfl _ (by simp) (by
        rw[J_cons,J_two]
        apply bytes_inj
        simp[endT,idT,zeroV,boundsS]),fun hl hs=>okS (h11:=hs n (by simp)) (h12:=hs n2 (by simp))⟩
      ·exact⟨good_cons (good_of _ (by decide)) (good_cons (good_of _ (by decide)) (good_cons hg (good_cons (good_of _ (by decide)) (good_cons hg2 (good_cons hg3 (by simp)))))),concl_text _ rfl _ (by simp) (by
        rw[J_cons,J_cons,J_cons,J_two]
        apply bytes_inj
        simp[endT,idT,zeroV,boundsS,colonS]),fun hl hs=>okS (h9:=fun y hy=>by
        obtain rfl:y=x:=by simpa using hy
        exact hs y (by simp)) (h11:=hs n (by simp)) (h12:=hs n2 (by simp))⟩
     ·rename_i he2
      simp only[Prod.mk.injEq] at h;exact absurd h.1 he2
    ·rename_i he
     simp only[Prod.mk.injEq] at h;exact absurd h.1 he
   ·simp at h
theorem finG_inv{r:RetG}{v:StepV}(h:finG r=(v,0)):r=(0,[],v):=by
 obtain⟨e,l,v'⟩:=r;unfold finG at h;simp only[Prod.mk.injEq] at h;obtain⟨rfl,h⟩:=h
 split at h
 ·rename_i he
  split at h
  ·rename_i hl
   rw[he,hl]
  ·simp at h
 ·rename_i he
  exact absurd h he
theorem parse_text{ws:List ByteArray}{v:StepV}(h:parseW ws=(v,0)):RT ws v∨v={ zeroV with kind:=7 }:=by
 cases ws with
 | nil=>
   simp only[parseW,Prod.mk.injEq] at h;exact .inr h.1.symm
 | cons w l=>
   unfold parseW at h;dsimp only at h
   cases ht:tabG w with
   | none=>rw[ht] at h;simp at h
   | some f=>
     rw[ht] at h;have h:=finG_inv h;unfold tabG at ht
     by_cases k1:w=kHead
     ·rw[if_pos k1] at ht;cases ht;subst k1;obtain⟨rfl,rfl⟩:=fix_rt (w:=kHead) h;exact .inl ⟨good_all _ (by decide),by decide +kernel,fun _ _=>okS⟩
     rw[if_neg k1] at ht
     by_cases k1:w=kF
     ·rw[if_pos k1] at ht;cases ht;subst k1;exact .inl (count_rt h)
     rw[if_neg k1] at ht
     by_cases k1:w=kPol
     ·rw[if_pos k1] at ht;cases ht;subst k1;exact .inl (pol_rt h)
     rw[if_neg k1] at ht
     by_cases k1:w=kRup
     ·rw[if_pos k1] at ht;cases ht;subst k1;exact .inl (rup_rt h)
     rw[if_neg k1] at ht
     by_cases k1:w=kSoli
     ·rw[if_pos k1] at ht;cases ht;subst k1;exact .inl (sol_rt (.inl ⟨rfl,rfl⟩) h)
     rw[if_neg k1] at ht
     by_cases k1:w=kSolx
     ·rw[if_pos k1] at ht;cases ht;subst k1;exact .inl (sol_rt (.inr ⟨rfl,rfl⟩) h)
     rw[if_neg k1] at ht
     by_cases k1:w=kE
     ·rw[if_pos k1] at ht;cases ht;subst k1;exact .inl (same_rt h)
     rw[if_neg k1] at ht
     by_cases k1:w=kDel
     ·rw[if_pos k1] at ht;cases ht;subst k1;exact .inl (del_rt h)
     rw[if_neg k1] at ht
     by_cases k1:w=kStar
     ·rw[if_pos k1] at ht;cases ht;subst k1;simp only[noteG,Prod.mk.injEq,true_and] at h;exact .inr h.symm
     rw[if_neg k1] at ht
     by_cases k1:w=kOut
     ·rw[if_pos k1] at ht;cases ht;subst k1;obtain⟨rfl,rfl⟩:=fix_rt (w:=kOut) h;exact .inl ⟨good_all _ (by decide),by decide +kernel,fun _ _=>okS⟩
     rw[if_neg k1] at ht
     by_cases k1:w=kConc
     ·rw[if_pos k1] at ht;cases ht;subst k1;exact .inl (concl_rt h)
     rw[if_neg k1] at ht
     by_cases k1:w=kEnd
     ·rw[if_pos k1] at ht;cases ht;subst k1;obtain⟨rfl,rfl⟩:=fix_rt (w:=kEnd) h;exact .inl ⟨good_all _ (by decide),by decide +kernel,fun _ _=>okS⟩
     rw[if_neg k1] at ht
     cases ht
theorem joinTail_no:∀ (ls:List (List UInt8)),(∀ l∈ls,GoodL l)→∀ c∈Lib.joinTail [32] ls,c≠10
 | [],_,c,hc=>by simp[Lib.joinTail] at hc
 | l::ls,h,c,hc=>by
   have hc:c=32∨c∈l∨c∈Lib.joinTail [32] ls:=by simpa [Lib.joinTail,or_assoc] using hc
   rcases hc with rfl | hc | hc
   ·decide
   ·have:=(h l (by simp)).2 c hc
    intro e;subst e;unfold GoodB at this;revert this;decide
   ·exact joinTail_no ls (fun x hx=>h x (by simp[hx])) c hc
theorem J_no(ws:List ByteArray)(h:∀ w∈ws,GoodW w):hasNL (J ws)=false:=by
 apply hasNL_of
 rw[J_data]
 cases ws with
 | nil=>simp[Lib.join_nil]
 | cons w ws=>
   intro c hc;rw[List.map_cons,Lib.join_cons] at hc
   rcases List.mem_append.1 hc with hc | hc
   ·have:=(h w (by simp)).2 c hc
    intro e;subst e;unfold GoodB at this;revert this;decide
   ·exact joinTail_no _ (fun l hl=>by
     obtain⟨y,hy,rfl⟩:=List.mem_map.1 hl;exact h y (by simp[hy])) c hc
variable {G:Nat→Option (List AV)}
def cntSs:Int→List StepV→Int
 | x,[]=>x
 | x,v::l=>if 0≤x then cntSs (cntS x v) l else x
theorem Steps_c{S:St}{b:Nat}{x:Int}(h:CntAt S b x)(hx:OkC x)(l:List StepV)(hs:∀ v∈l,SzStep v):Triple P (C G) 6 [.ref b 0,.sl .any 10 (rowsT l)] S fun o S'=>o=.ret (.tu [])∧S'=S.upd b (.obj 73 [.int .i64 (cntSs x l)]):=by
 refine triple_of_awp (hT G) hm Tryz.func6 rfl (by decide +kernel) rfl (by decide +kernel) (by show 2≤_;decide +kernel) rfl ?_
 conv=>whnf
 refine⟨⟨Nat×Int,fun z=>[(0,.ref b 0),(1,.sl .any 10 (rowsT l)),(4,.int .i64 (z.1:Int))],
  fun z S'=>S'=S.upd b (.obj 73 [.int .i64 z.2])∧OkC z.2∧z.1≤l.length∧cntSs z.2 (l.drop z.1)=cntSs x l,fun z=>l.length-z.1⟩,
  ⟨(0,x),⟨rfl,⟨rfl,rfl⟩,rfl,trivial⟩,_,St.leW_refl _,(St.upd_id h).symm,hx,by omega,rfl⟩,?_⟩
 rintro⟨i,y⟩ S' ⟨rfl,hy,hi,he⟩;dsimp only at hy hi he;have h':CntAt (S.upd b (.obj 73 [.int .i64 y])) b y:=St.upd_same _ _ _;have hok:=COk_ok (G:=G) h';conv=>whnf
 intro hlen;conv=>whnf
 by_cases hlt:i<l.length
 ·rw[show decide ((i:Int)<((rowsT l).length:Int))=true from decide_eq_true (by rw[rowsT_len];omega)]
  have hd:l.drop i=l[i]::l.drop (i+1):=List.drop_eq_getElem_cons hlt
  rw[hd] at he;simp only[cntSs] at he;have hsi:=hs _ (List.getElem_mem hlt);have ga:(rowsT l)[(i:Int).toNat]? = some (stepR l[i]):=by simp[rowsT,hlt]
  have htx:=Step_c (G:=G) h' hy l[i] hsi
  have hyt:=cntS_ok hy hsi
  rw[St.upd_upd] at htx;rw[rowsT_len] at hlen;conv=>whnf
  refine hok.mono ?_;rintro o T ⟨rfl,rfl⟩;conv=>whnf
  refine split_of (fun hp=>?_) (fun hp=>?_)
  ·have hp:0≤y:=of_decide_eq_true hp
   rw[if_pos hp] at he;have w1:IntKind.i64.wrap ((i:Int)+1)=((i+1:Nat):Int):=wrap_nat (by omega)
   generalize l[i]=e at *;conv=>whnf
   refine⟨_,⟨by omega,ga⟩,?_⟩
   conv=>whnf
   refine htx.mono ?_;rintro o T ⟨rfl,rfl⟩;conv=>whnf
   exact⟨(i+1,_),⟨rfl,⟨rfl,rfl⟩,congrArg _ w1,trivial⟩,⟨_,St.leW_refl _,rfl,hyt,hlt,he⟩,by show l.length-(i+1)<l.length-i;omega⟩
  ·have hp:¬ 0≤y:=of_decide_eq_false hp
   rw[if_neg hp] at he;conv=>whnf
   exact⟨_,_,⟨rfl,by rw[he]⟩,St.le_refl _,AV.leS_refl _ _ _⟩
 ·rw[show decide ((i:Int)<((rowsT l).length:Int))=false from decide_eq_false (by rw[rowsT_len];omega)]
  have hd:l.drop i=[]:=List.drop_eq_nil_of_le (by omega)
  rw[hd] at he;conv=>whnf
  exact⟨_,_,⟨rfl,by rw[← he];rfl⟩,St.le_refl _,AV.leS_refl _ _ _⟩
def wS1(s:ByteArray):Nat:=1+s.size
def wL(l:List ByteArray):Nat:=(l.map wS1).sum
theorem cnt_back{x n:Int}(h0:0≤n)(h:0≤cnt x n):0≤x∧cnt x n=x-n:=by
 unfold cnt at *
 by_cases hx:0≤x
 ·rw[if_pos hx];exact⟨hx,rfl⟩
 ·rw[if_neg hx] at h;exact absurd h hx
theorem cntT_back{x:Int}{s:ByteArray}(h:0≤cntT x s):0≤x∧cntT x s=x-(wS1 s:Nat):=by
 unfold cntT at *;obtain⟨h1,h2⟩:=cnt_back (by omega) h
 obtain⟨h3,h4⟩:=cnt_back (by omega) h1
 refine⟨h3,?_⟩;rw[h2,h4];unfold wS1;omega
theorem cntL_back:∀ {l:List ByteArray} {x:Int},0≤cntL x l→0≤x∧cntL x l=x-(wL l:Nat)
 | [],x,h=>⟨h,by simp[cntL,wL]⟩
 | s::l,x,h=>by
   unfold cntL at h ⊢
   by_cases hx:0≤x
   ·rw[if_pos hx] at h ⊢;obtain⟨h1,h2⟩:=cntL_back h;obtain⟨h3,h4⟩:=cntT_back h1;refine⟨hx,?_⟩;rw[h2,h4];simp only[wL,List.map_cons,List.sum_cons];omega
   ·rw[if_neg hx] at h;exact absurd h hx
def wt(v:StepV):Nat:=wS1 v.num+wS1 v.s7+wS1 v.s8+wL (v.ops.map fun o=>o.2.1)+wS1 v.bound+wL (v.pieces.map fun o=>o.1)+v.lits.length+wL v.ids
theorem cntS_back{x:Int}{v:StepV}(h:0≤cntS x v):0≤x∧cntS x v=x-(wt v:Nat):=by
 unfold cntS cntRow at *;obtain⟨h1,e1⟩:=cntL_back h;obtain⟨h2,e2⟩:=cnt_back (by omega) h1
 obtain⟨h3,e3⟩:=cntL_back h2;obtain⟨h4,e4⟩:=cntT_back h3;obtain⟨h5,e5⟩:=cntL_back h4;obtain⟨h6,e6⟩:=cntT_back h5;obtain⟨h7,e7⟩:=cntT_back h6;obtain⟨h8,e8⟩:=cntT_back h7;refine⟨h8,?_⟩;rw[e1,e2,e3,e4,e5,e6,e7,e8];have:wL (v.ids.map fun o=>(fun s:ByteArray=>s) o)=wL v.ids:=by congr 1;exact List.map_id v.ids
 unfold wt;omega
def wts(l:List StepV):Nat:=(l.map wt).sum
theorem cntSs_back:∀ {l:List StepV} {x:Int},0≤cntSs x l→0≤x∧cntSs x l=x-(wts l:Nat)
 | [],x,h=>⟨h,by simp[cntSs,wts]⟩
 | s::l,x,h=>by
   unfold cntSs at h ⊢
   by_cases hx:0≤x
   ·rw[if_pos hx] at h ⊢;obtain⟨h1,h2⟩:=cntSs_back h;obtain⟨h3,h4⟩:=cntS_back h1;refine⟨hx,?_⟩;rw[h2,h4];simp only[wts,List.map_cons,List.sum_cons];omega
   ·rw[if_neg hx] at h;exact absurd h hx
theorem wL_mem{l:List ByteArray}:∀ s∈l,s.size≤wL l:=by
 induction l with
 | nil=>intro s hs;cases hs
 | cons x l ih=>
   intro s hs;have e:wL (x::l)=wS1 x+wL l:=by simp[wL]
   rcases List.mem_cons.1 hs with rfl | hs
   ·unfold wS1 at e;omega
   ·have:=ih s hs;omega
theorem wL_len(l:List ByteArray):l.length≤wL l:=by
 induction l with
 | nil=>simp
 | cons x l ih=>
   have e:wL (x::l)=wS1 x+wL l:=by simp[wL]
   unfold wS1 at e;simp only[List.length_cons];omega
structure IntStep (v:StepV):Prop where
 ops:∀ o∈v.ops,okI o.2.2
 pieces:∀ p∈v.pieces,okI p.2
 lits:∀ z∈v.lits,okI z
theorem ok_of_wt{v:StepV}(h:wt v≤200000)(hi:IntStep v):OkStep v:=by
 unfold wt at h;have h1:=wL_len (v.ops.map fun o=>o.2.1)
 have h2:=wL_len (v.pieces.map fun o=>o.1)
 have h3:=wL_len v.ids
 rw[List.length_map] at h1 h2;have e1:v.num.size≤wS1 v.num:=by unfold wS1;omega
 have e2:v.s7.size≤wS1 v.s7:=by unfold wS1;omega
 have e3:v.s8.size≤wS1 v.s8:=by unfold wS1;omega
 have e4:v.bound.size≤wS1 v.bound:=by unfold wS1;omega
 refine⟨⟨by omega,fun o ho=>⟨hi.ops o ho,?_⟩⟩,⟨by omega,fun p hp=>⟨hi.pieces p hp,?_⟩,by omega⟩,⟨by omega,hi.lits⟩,⟨by omega,fun x hx=>?_⟩,by omega,by omega,by omega⟩
 ·have:=wL_mem (l:=v.ops.map fun o=>o.2.1) o.2.1 (List.mem_map.2 ⟨o,ho,rfl⟩);omega
 ·have:=wL_mem (l:=v.pieces.map fun o=>o.1) p.1 (List.mem_map.2 ⟨p,hp,rfl⟩);omega
 ·have:=wL_mem x hx;omega
theorem opT_len(o:OpV)(h:okI o.2.2):(opT o).size≤o.2.1.size+25:=by
 have hl:=litT_size o.2.2 h
 unfold opT
 split
 ·omega
 split
 ·omega
 split
 ·show 1≤_;omega
 split
 ·rw[ba_size_append];show _+2≤_;omega
 split
 ·rw[ba_size_append];show _+2≤_;omega
 split
 ·show 1≤_;omega
 split
 ·rw[ba_size_append];show _+2≤_;omega
 ·exact Nat.zero_le _
theorem ops_sum(l:List OpV)(h:∀ o∈l,okI o.2.2):sumS (l.map opT)+l.length≤26*wL (l.map fun o=>o.2.1):=by
 induction l with
 | nil=>simp[sumS]
 | cons o l ih=>
   have ih:=ih fun x hx=>h x (by simp[hx])
   have h1:=opT_len o (h o (by simp))
   have e:wL ((o::l).map fun o=>o.2.1)=wS1 o.2.1+wL (l.map fun o=>o.2.1):=by simp[wL]
   rw[e];unfold wS1;simp only[List.map_cons,sumS_cons,List.length_cons] at ih ⊢;omega
theorem pieces_sum(l:List (ByteArray×Int))(h:∀ o∈l,okI o.2):sumS (pieceT l)+(pieceT l).length≤26*wL (l.map fun o=>o.1):=by
 induction l with
 | nil=>simp[sumS,pieceT]
 | cons o l ih=>
   have ih:=ih fun x hx=>h x (by simp[hx])
   have h1:=litT_size o.2 (h o (by simp))
   have e:wL ((o::l).map fun o=>o.1)=wS1 o.1+wL (l.map fun o=>o.1):=by simp[wL]
   have e2:pieceT (o::l)=o.1::litT o.2::pieceT l:=by simp[pieceT]
   rw[e,e2];unfold wS1;simp only[sumS_cons,List.length_cons] at ih ⊢;omega
theorem lits_sum(l:List Int)(h:∀ z∈l,okI z):sumS (litsT l)+(litsT l).length≤26*l.length:=by
 induction l with
 | nil=>simp[sumS,litsT]
 | cons z l ih=>
   have ih:=ih fun x hx=>h x (by simp[hx])
   have h1:=litT_size z (h z (by simp))
   have e2:litsT (z::l)=litT z::litsT l:=by simp[litsT]
   rw[e2];simp only[sumS_cons,List.length_cons] at ih ⊢;omega
theorem ids_sum(l:List ByteArray):sumS l+l.length≤26*wL l:=by
 induction l with
 | nil=>simp[sumS]
 | cons x l ih=>
   have e:wL (x::l)=wS1 x+wL l:=by simp[wL]
   rw[e];unfold wS1;simp only[sumS_cons,List.length_cons] at ih ⊢;omega
theorem endT_len(v:StepV):(endT v).size≤20+v.s7.size+v.s8.size+wL v.ids:=by
 have hid:(idT v.ids).size≤3+wL v.ids:=by
  cases hv:v.ids with
  | nil=>decide
  | cons x l=>
    have e:wL (x::l)=wS1 x+wL l:=by simp[wL]
    unfold idT;rw[ba_size_append,e];unfold wS1
    show 3+_≤_
    omega
 unfold endT
 split
 ·show 4≤_;omega
 split
 ·show 3≤_;omega
 split
 ·rw[ba_size_append];show 5+_≤_;omega
 split
 ·rw[ba_size_append,ba_size_append];show 4+_+_≤_;omega
 split
 ·rw[ba_size_append,ba_size_append,ba_size_append,ba_size_append];show 7+_+_+1+_≤_;omega
 ·exact Nat.zero_le _
theorem rowT_len(ps:List (ByteArray×Int))(bound:ByteArray)(h:∀ o∈ps,okI o.2):(rowT ps bound).size≤26*wL (ps.map fun o=>o.1)+bound.size+6:=by
 have h1:=joinS_sum (pieceT ps++[geS,bound,semiS]) spaceS
 have h2:=pieces_sum ps h
 have e:spaceS.size=1:=rfl
 have e2:geS.size=2:=rfl
 have e3:semiS.size=1:=rfl
 rw[e,sumS_append] at h1;simp only[sumS_cons,sumS_nil,List.length_append,List.length_cons,List.length_nil,e2,e3] at h1;unfold rowT;omega
set_option maxHeartbeats 2000000 in
theorem textT_wt{v:StepV}(hi:IntStep v):(textT v).size≤26*wt v+60:=by
 have h0:=joinS_sum (textW v) spaceS
 have e:spaceS.size=1:=rfl
 rw[e] at h0;have h1:sumS (v.ops.map opT)+v.ops.length≤26*wL (v.ops.map fun o=>o.2.1):=ops_sum v.ops hi.ops
 have h2:=rowT_len v.pieces v.bound hi.pieces
 have h3:=lits_sum v.lits hi.lits
 have h4:=ids_sum v.ids
 have h5:=endT_len v
 have e1:w1S.size=32:=rfl
 have e2:kF.size=1:=rfl
 have e3:kPol.size=3:=rfl
 have e4:kRup.size=3:=rfl
 have e5:kE.size=1:=rfl
 have e6:kSoli.size=4:=rfl
 have e7:kSolx.size=4:=rfl
 have e8:kDel.size=3:=rfl
 have e9:kStar.size=1:=rfl
 have e10:w8S.size=11:=rfl
 have e11:kConc.size=10:=rfl
 have e12:w10S.size=24:=rfl
 have e13:(⟨#[105,100]⟩:ByteArray).size=2:=rfl
 unfold textT;refine Nat.le_trans h0 ?_;unfold wt wS1;unfold textW
 repeat' split
 all_goals simp only[sumS_append,sumS_cons,sumS_nil,List.length_append,List.length_cons,List.length_nil,List.length_map,e1,e2,e3,e4,e5,e6,e7,e8,e9,e10,e11,e12,e13]
 all_goals omega
theorem wts_mem{l:List StepV}:∀ v∈l,wt v≤wts l:=by
 induction l with
 | nil=>intro s hs;cases hs
 | cons x l ih=>
   intro s hs;have e:wts (x::l)=wt x+wts l:=by simp[wts]
   rcases List.mem_cons.1 hs with rfl | hs
   ·omega
   ·have:=ih s hs;omega
theorem wts_len(l:List StepV):4*l.length≤wts l:=by
 induction l with
 | nil=>simp
 | cons x l ih=>
   have e:wts (x::l)=wt x+wts l:=by simp[wts]
   have:4≤wt x:=by unfold wt wS1;omega
   simp only[List.length_cons];omega
theorem catB_len1(x:ByteArray)(l:List ByteArray):(catB (x::l)).size=x.size+(catB l).size:=by
 have hx:x.data.toList.length=x.size:=by rw[Array.length_toList];rfl
 simp only[catB,ByteArray.size,List.flatMap_cons,List.size_toArray,List.length_append,hx]
theorem cat_wL{α:Type}(l:List α)(f g:α→ByteArray)(h:∀ x∈l,(f x).size≤26*wS1 (g x)):(catB (l.map f)).size≤26*wL (l.map g):=by
 induction l with
 | nil=>exact Nat.zero_le _
 | cons x l ih=>
   have ih:=ih fun y hy=>h y (by simp[hy])
   have h1:=h x (by simp)
   have e:wL ((x::l).map g)=wS1 (g x)+wL (l.map g):=by simp[wL]
   rw[List.map_cons,catB_len1,e];omega
theorem textsR_wt(l:List ByteArray):(textsR l).size≤26*wL l:=by
 have:=cat_wL l (fun x=>spc++x) (fun x=>x) fun x _=>by rw[ba_size_append];unfold wS1;show 1+_≤_;omega
 rw[List.map_id'] at this;exact this
theorem idR_wt(l:List ByteArray):(idR l).size≤2+26*wL l:=by
 unfold idR
 split
 ·exact Nat.zero_le _
 ·rw[ba_size_append];have:=textsR_wt (‹ByteArray›::‹List ByteArray›);exact Nat.add_le_add (Nat.le_refl _) this
theorem rowR_wt(ps:List (ByteArray×Int))(b:ByteArray)(h:∀ p∈ps,okI p.2):(rowR ps b).size≤26*wL (ps.map fun o=>o.1)+b.size+6:=by
 have h1:=cat_wL ps pieceR (fun o=>o.1) fun x hx=>by
  have:=litRR_size x.2 (h x hx)
  unfold pieceR wS1;rw[ba_size_append,ba_size_append];show 1+_+_≤_;omega
 unfold rowR;rw[ba_size_append,ba_size_append,ba_size_append]
 show _+4+_+2≤_
 omega
theorem opsR_wt(l:List OpV)(h:∀ o∈l,okI o.2.2):(catB (l.map opR)).size≤26*wL (l.map fun o=>o.2.1):=
 cat_wL l opR (fun o=>o.2.1) fun x hx=>by
  have:=litRR_size x.2.2 (h x hx)
  unfold opR wS1
  repeat' split
  all_goals first
   | (rw[ba_size_append,ba_size_append];show 1+_+2≤_;omega)
   | (rw[ba_size_append];show 1+_≤_;omega)
   | (rw[ba_size_append];show _+2≤_;omega)
   | omega
   | (show 2≤_;omega)
theorem litsR_wt(l:List Int)(h:∀ z∈l,okI z):(catB (l.map litRR)).size≤26*l.length:=by
 have:=catB_size (l.map litRR) 24 fun x hx=>by
  obtain⟨y,hy,rfl⟩:=List.mem_map.1 hx;exact litRR_size y (h y hy)
 rw[List.length_map] at this;omega
theorem endR_wt(v:StepV):(endR v).size≤20+v.s7.size+v.s8.size+26*wL v.ids:=by
 have h1:=idR_wt v.ids
 unfold endR
 repeat' split
 all_goals first
  | (rw[ba_size_append,ba_size_append,ba_size_append,ba_size_append];show 8+_+_+1+_≤_;omega)
  | (rw[ba_size_append,ba_size_append];show 5+_+_≤_;omega)
  | (rw[ba_size_append];show 6+_≤_;omega)
  | (show 5≤_;omega)
  | (show 4≤_;omega)
  | (show 2≤_;omega)
set_option maxHeartbeats 2000000 in
theorem lineV_wt{v:StepV}(hi:IntStep v):(lineV v).size≤26*wt v+60:=by
 have h1:(catB (v.ops.map opR)).size≤26*wL (v.ops.map fun o=>o.2.1):=opsR_wt v.ops hi.ops
 have h2:=rowR_wt v.pieces v.bound hi.pieces
 have h3:=litsR_wt v.lits hi.lits
 have h4:=textsR_wt v.ids
 have h5:=endR_wt v
 have e1:w1S.size=32:=rfl
 have e3:kPol.size=3:=rfl
 have e4:kRup.size=3:=rfl
 have e5:kE.size=1:=rfl
 have e6:kSoli.size=4:=rfl
 have e7:kSolx.size=4:=rfl
 have e9:kStar.size=1:=rfl
 have e10:w8S.size=11:=rfl
 have e11:kConc.size=10:=rfl
 have e12:w10S.size=24:=rfl
 have e13:(⟨#[102,32]⟩:ByteArray).size=2:=rfl
 have e14:(⟨#[100,101,108,32,105,100]⟩:ByteArray).size=6:=rfl
 have e15:(⟨#[63]⟩:ByteArray).size=1:=rfl
 generalize hx:lineV v=x;unfold wt wS1;unfold lineV at hx
 by_cases k1:v.kind=1
 ·rw[if_pos k1] at hx;rw[← hx,e1];omega
 rw[if_neg k1] at hx
 by_cases k2:v.kind=2
 ·rw[if_pos k2] at hx;rw[← hx,ba_size_append,e13];omega
 rw[if_neg k2] at hx
 by_cases k3:v.kind=3
 ·rw[if_pos k3] at hx;rw[← hx,catB_len1,e3];omega
 rw[if_neg k3] at hx
 by_cases k4:v.kind=4
 ·rw[if_pos k4] at hx;rw[← hx,ba_size_append,ba_size_append,e4];omega
 rw[if_neg k4] at hx
 by_cases k5:v.kind=12
 ·rw[if_pos k5] at hx;rw[← hx,ba_size_append,ba_size_append,e5];omega
 rw[if_neg k5] at hx
 by_cases k6:v.kind=5
 ·rw[if_pos k6] at hx;rw[← hx,catB_len1,e6];omega
 rw[if_neg k6] at hx
 by_cases k7:v.kind=11
 ·rw[if_pos k7] at hx;rw[← hx,catB_len1,e7];omega
 rw[if_neg k7] at hx
 by_cases k8:v.kind=6
 ·rw[if_pos k8] at hx;rw[← hx,ba_size_append,e14];omega
 rw[if_neg k8] at hx
 by_cases k9:v.kind=7
 ·rw[if_pos k9] at hx;rw[← hx,e9];omega
 rw[if_neg k9] at hx
 by_cases k10:v.kind=8
 ·rw[if_pos k10] at hx;rw[← hx,e10];omega
 rw[if_neg k10] at hx
 by_cases k11:v.kind=9
 ·rw[if_pos k11] at hx;rw[← hx,ba_size_append,e11];omega
 rw[if_neg k11] at hx
 by_cases k12:v.kind=10
 ·rw[if_pos k12] at hx;rw[← hx,e12];omega
 rw[if_neg k12] at hx;rw[← hx,e15];omega
theorem flat_set:∀ (xs:List (List AV)) (_:∀ x∈xs,x.length=1) (j:Nat) (z:AV),(xs.set j [z]).flatten=xs.flatten.set j z
 | [],_,j,z=>by simp
 | x::xs,hx,0,z=>by
   obtain⟨y,rfl⟩:=List.length_eq_one_iff.1 (hx x (by simp))
   simp
 | x::xs,hx,j+1,z=>by
   obtain⟨y,rfl⟩:=List.length_eq_one_iff.1 (hx x (by simp))
   simp only[List.set_cons_succ,List.flatten_cons,List.cons_append,List.nil_append];rw[flat_set xs (fun x h=>hx x (by simp[h])) j z]
theorem Has.write{e e':TypeId}{mk:Nat→List AV}{S:St}{b:Nat}{xs:List (List AV)}{c cap:Nat}{cells:List AV}(h:Has e mk S b xs c cap)(hc:S b=Option.some (Own.obj e' cells))(j:Nat)(hj:j<xs.length)(z:AV) :
 Has e mk (S.upd b (Own.obj e' (setRange cells (0+j*1) [z]))) b (xs.set j [z]) c cap:=by
 obtain⟨junk,h1,hx,h2,h3,h4⟩:=h;rw[h1] at hc
 cases hc
 refine⟨junk,(St.upd_same _ _ _).trans ?_,fun x hh=>?_,by rw[List.length_set];exact h2,by rw[List.length_set];exact h3,h4⟩
 ·rw[flat_set xs hx j z];simp only[setRange];rw[show 0+j*1=j by omega,List.set_append_left _ _ (by rw[flat1_len hx];exact hj)]
 ·rcases List.mem_or_eq_of_mem_set hh with hh | rfl
  ·exact hx x hh
  ·rfl
theorem Rm.write{S₀ S:St}{Kn:Nat→Nat}{rb N:Nat}(h:Rm S₀ Kn S rb N){e:TypeId}{b j:Nat}{cells:List AV}(hb:S₀ b=some (.obj e cells))(hj:j<Kn b)(z:AV) :
 Rm (S₀.upd b (.obj e (setRange cells (0+j*1) [z]))) Kn (S.upd b (.obj e (setRange cells (0+j*1) [z]))) rb N:=by
 obtain⟨A,h1,h2⟩:=h;have hs:∀ {e':TypeId} {mk:Nat→List AV} (x:Nat) (xs:List (List AV)) (c cap:Nat),xs.length=Kn x→Has e' mk S₀ x xs c cap→(∃ ys,ys.length=xs.length∧Has e' mk (S₀.upd b (.obj e (setRange cells (0+j*1) [z]))) x ys c cap)∧Kn x=Kn x:=fun x xs c cap hl hh=>by
  refine⟨?_,rfl⟩
  by_cases hx:x=b
  ·subst hx;exact⟨xs.set j [z],by rw[List.length_set],hh.write hb j (by omega) z⟩
  ·exact⟨xs,rfl,hh.le (St.upd_ne _ _ _ _ hx)⟩
 exact⟨A,h1.set (.inr ⟨_,hb⟩) _,⟨h2.i.keep (Nat.le_refl _) fun x xs c cap=>hs x xs c cap,h2.t.keep (Nat.le_refl _) fun x xs c cap=>hs x xs c cap,h2.p,h2.o,h2.s⟩⟩
structure OkLW (S T:St) (Kn:Nat→Nat) (v:StepV) (bL bI:Nat):Prop where
 l0:S bL=none
 i0:S bI=none
 lk:Kn bL=v.lits.length
 ik:Kn bI=v.ids.length
 l:∃ L cap,L.length=v.lits.length∧(∀ z∈L,okI z)∧Has 3 mkI T bL (rowsI L) 4 cap
 i:∃ I cap,I.length=v.ids.length∧Has 9 mkT T bI (rowsS I) 4 cap
theorem StW.ok{S T:St}{Kn:Nat→Nat}{v:StepV}{bL bI:Nat}(h:StW S T Kn v bL bI)(hi:IntStep v):OkLW S T Kn v bL bI:=by
 obtain⟨c1,k1⟩:=h.l;obtain⟨c2,k2⟩:=h.i;exact⟨h.l0,h.i0,h.lk,h.ik,⟨_,_,rfl,hi.lits,k1⟩,⟨_,_,rfl,k2⟩⟩
theorem OkLW.writeI{S T:St}{Kn:Nat→Nat}{v:StepV}{bL bI:Nat}(h:OkLW S T Kn v bL bI){b j:Nat}{cells:List AV}(hb:T b=some (.obj 3 cells))(hj:j<Kn b){z:Int}(hz:okI z) :
 OkLW S (T.upd b (.obj 3 (setRange cells (0+j*1) [.int .i64 z]))) Kn v bL bI:=by
 refine⟨h.l0,h.i0,h.lk,h.ik,?_,?_⟩
 ·obtain⟨L,cap,e1,e2,e3⟩:=h.l
  by_cases hx:bL=b
  ·subst hx;have h1:=e3.write hb j (by rw[rowsI_len];have:=h.lk;omega) (.int .i64 z)
   refine⟨L.set j z,cap,by rw[List.length_set];exact e1,fun y hy=>?_,?_⟩
   ·rcases List.mem_or_eq_of_mem_set hy with hy | rfl
    ·exact e2 y hy
    ·exact hz
   ·rw[show rowsI (L.set j z)=(rowsI L).set j [.int .i64 z] from List.map_set];exact h1
  ·exact⟨L,cap,e1,e2,e3.le (St.upd_ne _ _ _ _ hx)⟩
 ·obtain⟨I,cap,e1,e3⟩:=h.i;have hx:bI≠b:=fun hx=>by
   obtain⟨cs,hc⟩:=e3.at_;rw[hx,hb] at hc;exact absurd hc (by simp)
  exact⟨I,cap,e1,e3.le (St.upd_ne _ _ _ _ hx)⟩
theorem OkLW.writeS{S T:St}{Kn:Nat→Nat}{v:StepV}{bL bI:Nat}(h:OkLW S T Kn v bL bI){b j:Nat}{cells:List AV}(hb:T b=some (.obj 9 cells))(hj:j<Kn b){z:ByteArray} :
 OkLW S (T.upd b (.obj 9 (setRange cells (0+j*1) [.str z]))) Kn v bL bI:=by
 refine⟨h.l0,h.i0,h.lk,h.ik,?_,?_⟩
 ·obtain⟨L,cap,e1,e2,e3⟩:=h.l;have hx:bL≠b:=fun hx=>by
   obtain⟨cs,hc⟩:=e3.at_;rw[hx,hb] at hc;exact absurd hc (by simp)
  exact⟨L,cap,e1,e2,e3.le (St.upd_ne _ _ _ _ hx)⟩
 ·obtain⟨I,cap,e1,e3⟩:=h.i
  by_cases hx:bI=b
  ·subst hx;have h1:=e3.write hb j (by rw[rowsS_len];have:=h.ik;omega) (.str z)
   refine⟨I.set j z,cap,by rw[List.length_set];exact e1,?_⟩
   rw[show rowsS (I.set j z)=(rowsS I).set j [.str z] from List.map_set];exact h1
  ·exact⟨I,cap,e1,e3.le (St.upd_ne _ _ _ _ hx)⟩
theorem rows_flat:∀ (xs:List (List AV)) (rest:List AV) (_:∀ x∈xs,x.length=1),rowsOf 1 (xs.flatten++rest) xs.length=xs
 | [],rest,_=>rfl
 | x::xs,rest,hx=>by
   obtain⟨y,rfl⟩:=List.length_eq_one_iff.1 (hx x (by simp))
   show rowsOf 1 _ (xs.length+1)=_
   simp only[List.flatten_cons,List.cons_append,List.nil_append,rowsOf];rw[show(y::(xs.flatten++rest)).take 1=[y] from rfl,show(y::(xs.flatten++rest)).drop 1=xs.flatten++rest from rfl,rows_flat xs rest fun x h=>hx x (by simp[h])]
def withLI(v:StepV)(L:List Int)(I:List ByteArray):StepV:={ v with lits:=L,ids:=I }
theorem withLI_self(v:StepV):withLI v v.lits v.ids=v:=rfl
theorem lend_has{e:TypeId}{mk:Nat→List AV}{T S1:St}{b n c cap:Nat}{xs:List (List AV)}(h:Has e mk T b xs c cap)(hle:St.le T S1)(hn:n=xs.length):AV.leS S1 St.emp (.arr b 0 n (n+c)) (.sl .any 1 xs):=by
 obtain⟨junk,h1,hx,h2,h3,h4⟩:=h;subst hn;refine⟨⟨rfl,Nat.one_pos,Nat.le_add_right _ _,by omega⟩,_,_,hle _ _ h1,?_,?_⟩
 ·rw[List.length_append,flat1_len hx];omega
 ·rw[List.drop_zero,rows_flat xs _ hx]
theorem lend_step{T S1:St}(hle:St.le T S1){v:StepV}{bL bI c1 c2:Nat}{L:List Int}{I:List ByteArray}(hL:Has 3 mkI T bL (rowsI L) 4 c1)(hI:Has 9 mkT T bI (rowsS I) 4 c2)(e1:L.length=v.lits.length)(e2:I.length=v.ids.length) :
 AV.leS S1 St.emp (.ag (rowW v bL bI)) (stepAV (withLI v L I)):=
 ⟨rfl,rfl,⟨rfl,rfl⟩,⟨rfl,rfl⟩,rfl,lend_has hL hle (by rw[rowsI_len];exact e1.symm),lend_has hI hle (by rw[rowsS_len];exact e2.symm),rfl,rfl,rfl,rfl⟩
theorem okStep_with{v:StepV}{L:List Int}{I:List ByteArray}(h:OkStep v)(hl:L.length=v.lits.length)(hL:∀ z∈L,okI z)(hi:I.length=v.ids.length)(hI:∀ x∈I,x.size≤10000000):OkStep (withLI v L I):=
 ⟨h.ops,h.row,⟨by show L.length≤_;rw[hl];exact h.lits.1,hL⟩,⟨by show I.length≤_;rw[hi];exact h.ids.1,hI⟩,h.num,h.s7,h.s8⟩
theorem intStep_with{v:StepV}{L:List Int}{I:List ByteArray}(h:IntStep v)(hL:∀ z∈L,okI z):IntStep (withLI v L I):=⟨h.ops,h.pieces,hL⟩
theorem ids_sum1(l:List ByteArray):sumS l+l.length≤wL l:=by
 induction l with
 | nil=>simp[sumS]
 | cons x l ih=>
   have e:wL (x::l)=wS1 x+wL l:=by simp[wL]
   rw[e];unfold wS1;simp only[sumS_cons,List.length_cons] at ih ⊢;omega
set_option maxHeartbeats 2000000 in
theorem textT_wt1{v:StepV}(hi:IntStep v):(textT v).size+24*wL v.ids≤26*wt v+60:=by
 have h0:=joinS_sum (textW v) spaceS
 have e:spaceS.size=1:=rfl
 rw[e] at h0;have h1:sumS (v.ops.map opT)+v.ops.length≤26*wL (v.ops.map fun o=>o.2.1):=ops_sum v.ops hi.ops
 have h2:=rowT_len v.pieces v.bound hi.pieces
 have h3:=lits_sum v.lits hi.lits
 have h4:=ids_sum1 v.ids
 have h5:=endT_len v
 have e1:w1S.size=32:=rfl
 have e2:kF.size=1:=rfl
 have e3:kPol.size=3:=rfl
 have e4:kRup.size=3:=rfl
 have e5:kE.size=1:=rfl
 have e6:kSoli.size=4:=rfl
 have e7:kSolx.size=4:=rfl
 have e8:kDel.size=3:=rfl
 have e9:kStar.size=1:=rfl
 have e10:w8S.size=11:=rfl
 have e11:kConc.size=10:=rfl
 have e12:w10S.size=24:=rfl
 have e13:(⟨#[105,100]⟩:ByteArray).size=2:=rfl
 unfold textT;refine Nat.le_trans (Nat.add_le_add_right h0 _) ?_;unfold wt wS1;unfold textW
 repeat' split
 all_goals simp only[sumS_append,sumS_cons,sumS_nil,List.length_append,List.length_cons,List.length_nil,List.length_map,e1,e2,e3,e4,e5,e6,e7,e8,e9,e10,e11,e12,e13]
 all_goals omega
theorem cat_wL1(l:List ByteArray):(textsR l).size≤wL l:=by
 have h:∀ l:List ByteArray,(catB (l.map fun x=>spc++x)).size≤wL l:=fun l=>by
  induction l with
  | nil=>exact Nat.zero_le _
  | cons x l ih=>
    have e:wL (x::l)=wS1 x+wL l:=by simp[wL]
    rw[List.map_cons,catB_len1,e,ba_size_append];unfold wS1
    show 1+_+_≤_
    omega
 exact h l
theorem idR_wt1(l:List ByteArray):(idR l).size≤2+wL l:=by
 unfold idR
 split
 ·exact Nat.zero_le _
 ·rw[ba_size_append];have:=cat_wL1 (‹ByteArray›::‹List ByteArray›);exact Nat.add_le_add (Nat.le_refl _) this
theorem endR_wt1(v:StepV):(endR v).size≤20+v.s7.size+v.s8.size+wL v.ids:=by
 have h1:=idR_wt1 v.ids
 unfold endR
 repeat' split
 all_goals first
  | (rw[ba_size_append,ba_size_append,ba_size_append,ba_size_append];show 8+_+_+1+_≤_;omega)
  | (rw[ba_size_append,ba_size_append];show 5+_+_≤_;omega)
  | (rw[ba_size_append];show 6+_≤_;omega)
  | (show 5≤_;omega)
  | (show 4≤_;omega)
  | (show 2≤_;omega)
set_option maxHeartbeats 2000000 in
theorem lineV_wt1{v:StepV}(hi:IntStep v):(lineV v).size+24*wL v.ids≤26*wt v+60:=by
 have h1:(catB (v.ops.map opR)).size≤26*wL (v.ops.map fun o=>o.2.1):=opsR_wt v.ops hi.ops
 have h2:=rowR_wt v.pieces v.bound hi.pieces
 have h3:=litsR_wt v.lits hi.lits
 have h4:=cat_wL1 v.ids
 have h5:=endR_wt1 v
 have e1:w1S.size=32:=rfl
 have e3:kPol.size=3:=rfl
 have e4:kRup.size=3:=rfl
 have e5:kE.size=1:=rfl
 have e6:kSoli.size=4:=rfl
 have e7:kSolx.size=4:=rfl
 have e9:kStar.size=1:=rfl
 have e10:w8S.size=11:=rfl
 have e11:kConc.size=10:=rfl
 have e12:w10S.size=24:=rfl
 have e13:(⟨#[102,32]⟩:ByteArray).size=2:=rfl
 have e14:(⟨#[100,101,108,32,105,100]⟩:ByteArray).size=6:=rfl
 have e15:(⟨#[63]⟩:ByteArray).size=1:=rfl
 generalize hx:lineV v=x;unfold wt wS1;unfold lineV at hx
 by_cases k1:v.kind=1
 ·rw[if_pos k1] at hx;rw[← hx,e1];omega
 rw[if_neg k1] at hx
 by_cases k2:v.kind=2
 ·rw[if_pos k2] at hx;rw[← hx,ba_size_append,e13];omega
 rw[if_neg k2] at hx
 by_cases k3:v.kind=3
 ·rw[if_pos k3] at hx;rw[← hx,catB_len1,e3];omega
 rw[if_neg k3] at hx
 by_cases k4:v.kind=4
 ·rw[if_pos k4] at hx;rw[← hx,ba_size_append,ba_size_append,e4];omega
 rw[if_neg k4] at hx
 by_cases k5:v.kind=12
 ·rw[if_pos k5] at hx;rw[← hx,ba_size_append,ba_size_append,e5];omega
 rw[if_neg k5] at hx
 by_cases k6:v.kind=5
 ·rw[if_pos k6] at hx;rw[← hx,catB_len1,e6];omega
 rw[if_neg k6] at hx
 by_cases k7:v.kind=11
 ·rw[if_pos k7] at hx;rw[← hx,catB_len1,e7];omega
 rw[if_neg k7] at hx
 by_cases k8:v.kind=6
 ·rw[if_pos k8] at hx;rw[← hx,ba_size_append,e14];omega
 rw[if_neg k8] at hx
 by_cases k9:v.kind=7
 ·rw[if_pos k9] at hx;rw[← hx,e9];omega
 rw[if_neg k9] at hx
 by_cases k10:v.kind=8
 ·rw[if_pos k10] at hx;rw[← hx,e10];omega
 rw[if_neg k10] at hx
 by_cases k11:v.kind=9
 ·rw[if_pos k11] at hx;rw[← hx,ba_size_append,e11];omega
 rw[if_neg k11] at hx
 by_cases k12:v.kind=10
 ·rw[if_pos k12] at hx;rw[← hx,e12];omega
 rw[if_neg k12] at hx;rw[← hx,e15];omega
def fiveS:ByteArray:=⟨#[53]⟩
theorem wL_five(n:Nat):wL (List.replicate n fiveS)=2*n:=by
 induction n with
 | zero=>rfl
 | succ n ih=>
   have e:wL (fiveS::List.replicate n fiveS)=wS1 fiveS+wL (List.replicate n fiveS):=by simp[wL]
   rw[List.replicate_succ,e,ih]
   show 1+1+_=_
   omega
theorem wt_with(v:StepV)(L:List Int)(I:List ByteArray)(h:L.length=v.lits.length):wt (withLI v L I)+wL v.ids=wt v+wL I:=by
 unfold wt withLI;dsimp only;rw[h];omega
theorem five_small{v:StepV}(hw:wt v≤200000)(hi:IntStep v){L:List Int}{n:Nat}(hl:L.length=v.lits.length)(hL:∀ z∈L,okI z)(hn:n=v.ids.length) :
 (textT (withLI v L (List.replicate n fiveS))).size≤8999999∧(lineV (withLI v L (List.replicate n fiveS))).size≤8999999:=by
 have h1:=textT_wt1 (intStep_with (I:=List.replicate n fiveS) hi hL)
 have h2:=lineV_wt1 (intStep_with (I:=List.replicate n fiveS) hi hL)
 have h3:=wt_with v L (List.replicate n fiveS) hl
 have h4:wL (withLI v L (List.replicate n fiveS)).ids=2*n:=wL_five n
 rw[h4] at h1 h2;rw[wL_five] at h3;have h5:=wL_len v.ids;have h6:wL v.ids≤wt v:=by unfold wt;omega
 omega
theorem catB_data(l:List ByteArray):(catB l).data.toList=l.flatMap (·.data.toList):=by simp[catB]
theorem catB_cons(x:ByteArray)(l:List ByteArray):catB (x::l)=x++catB l:=by
 apply bytes_inj
 rw[ByteArray.data_append,Array.toList_append,catB_data,catB_data,List.flatMap_cons]
theorem catB_append(a b:List ByteArray):catB (a++b)=catB a++catB b:=by
 apply bytes_inj
 rw[ByteArray.data_append,Array.toList_append,catB_data,catB_data,catB_data,List.flatMap_append]
theorem J_cat(w:ByteArray):∀ l:List ByteArray,J (w::l)=w++catB (l.map fun x=>spc++x)
 | []=>by
  rw[J_one]
  apply bytes_inj
  simp[catB]
 | x::l=>by
   have h:=J_cat x l
   apply bytes_inj
   rw[J_data] at *;have h':=congrArg (fun b:ByteArray=>b.data.toList) h
   rw[J_data] at h';simp only[List.map_cons] at h' ⊢;rw[join_len_cons,h']
   simp[catB,spc]
theorem litRR_eq(z:Int):litRR z=spc++litT z:=by
 unfold litRR litT
 split
 ·apply bytes_inj;simp[spc]
 ·apply bytes_inj;simp[spc]
theorem opR_eq{o:OpV}(h:1≤o.1∧o.1≤7):opR o=spc++opT o:=by
 obtain⟨k,n,z⟩:=o;dsimp only at h;have hk:k=1∨k=2∨k=3∨k=4∨k=5∨k=6∨k=7:=by omega
 rcases hk with rfl | rfl | rfl | rfl | rfl | rfl | rfl
 ·rfl
 ·exact litRR_eq z
 ·show(⟨#[32,43]⟩:ByteArray)=spc++(⟨#[43]⟩:ByteArray);decide +kernel
 ·show(spc++n)++(⟨#[32,42]⟩:ByteArray)=spc++(n++(⟨#[32,42]⟩:ByteArray))
  rw[ba_assoc]
 ·show(spc++n)++(⟨#[32,100]⟩:ByteArray)=spc++(n++(⟨#[32,100]⟩:ByteArray))
  rw[ba_assoc]
 ·show(⟨#[32,115]⟩:ByteArray)=spc++(⟨#[115]⟩:ByteArray);decide +kernel
 ·show litRR z++(⟨#[32,119]⟩:ByteArray)=spc++(litT z++(⟨#[32,119]⟩:ByteArray))
  rw[litRR_eq,ba_assoc]
theorem rowR_eq(ps:List (ByteArray×Int))(b:ByteArray):rowR ps b=spc++rowT ps b:=by
 have h1:∀ ps:List (ByteArray×Int),catB (ps.map pieceR)=catB ((pieceT ps).map fun x=>spc++x):=by
  intro ps
  induction ps with
  | nil=>rfl
  | cons p ps ih=>
    have e:pieceT (p::ps)=p.1::litT p.2::pieceT ps:=rfl
    rw[e,List.map_cons,List.map_cons,List.map_cons,catB_cons,catB_cons,catB_cons,ih,← litRR_eq];unfold pieceR;rw[ba_assoc,ba_assoc]
 have h2:∀ l:List ByteArray,l≠[]→spc++J l=catB (l.map fun x=>spc++x):=by
  intro l hl
  cases l with
  | nil=>exact absurd rfl hl
  | cons w l=>rw[J_cat,List.map_cons,catB_cons,ba_assoc]
 rw[rowT_J,h2 _ (by simp)]
 unfold rowR;rw[h1,List.map_append,catB_append]
 apply bytes_inj
 simp[catB,spc,geS,semiS]
theorem line_kinds{v:StepV}(h:v.kind=1∨v.kind=7∨v.kind=8∨v.kind=10):lineV v=textT v:=by
 rcases h with h | h | h | h<;>(unfold lineV textT textW;simp[h];exact(J_one _).symm)
theorem line_count{v:StepV}(h:v.kind=2):lineV v=textT v:=by
 unfold lineV textT textW;simp only[h]
 show _=J [kF,v.num]
 rw[J_two]
 apply bytes_inj
 simp[kF]
theorem line_pol{v:StepV}(h:v.kind=3)(ho:∀ o∈v.ops,1≤o.1∧o.1≤7):lineV v=textT v:=by
 unfold lineV textT textW;simp only[h]
 show catB (kPol::v.ops.map opR)=J (kPol::v.ops.map opT)
 rw[J_cat,catB_cons,List.map_map]
 congr 2
 exact List.map_congr_left fun o hm=>opR_eq (ho o hm)
theorem line_rup{v:StepV}(h:v.kind=4):lineV v=textT v:=by
 unfold lineV textT textW;simp only[h]
 show(kRup++rowR v.pieces v.bound)++textsR v.ids=J (kRup::rowT v.pieces v.bound::v.ids)
 rw[J_cat,List.map_cons,catB_cons,← rowR_eq,ba_assoc];rfl
theorem line_same{v:StepV}(h:v.kind=12):lineV v=textT v:=by
 unfold lineV textT textW;simp only[h]
 show(kE++textsR v.ids)++rowR v.pieces v.bound=J (kE::(v.ids++[rowT v.pieces v.bound]))
 rw[J_cat,List.map_append,catB_append,ba_assoc,rowR_eq]
 congr 2
 apply bytes_inj
 simp[catB]
theorem line_sol{v:StepV}(h:v.kind=5∨v.kind=11):lineV v=textT v:=by
 rcases h with h | h
 ·unfold lineV textT textW;simp only[h]
  show catB (kSoli::v.lits.map litRR)=J (kSoli::v.lits.map litT)
  rw[J_cat,catB_cons,List.map_map]
  congr 2
  exact List.map_congr_left fun z _=>litRR_eq z
 ·unfold lineV textT textW;simp only[h]
  show catB (kSolx::v.lits.map litRR)=J (kSolx::v.lits.map litT)
  rw[J_cat,catB_cons,List.map_map]
  congr 2
  exact List.map_congr_left fun z _=>litRR_eq z
theorem line_del{v:StepV}(h:v.kind=6):lineV v=textT v:=by
 unfold lineV textT textW;simp only[h]
 show(⟨#[100,101,108,32,105,100]⟩:ByteArray)++textsR v.ids=J (kDel::(⟨#[105,100]⟩:ByteArray)::v.ids)
 rw[J_cat,List.map_cons,catB_cons,← ba_assoc];rfl
theorem idR_eq{ids:List ByteArray}(h:ids.length≤1):idR ids=idT ids:=by
 match ids,h with
 | [],_=>rfl
 | [x],_=>
  show(⟨#[32,58]⟩:ByteArray)++textsR [x]=(⟨#[32,58,32]⟩:ByteArray)++x
  apply bytes_inj
  simp[textsR,catB,spc]
theorem line_concl{v:StepV}(h:v.kind=9)(hn:v.n6=1∨v.n6=2∨v.n6=3∨v.n6=5∨v.n6=6)(hi:v.ids.length≤1):lineV v=textT v:=by
 have he:endR v=spc++endT v:=by
  unfold endR endT;rw[idR_eq hi];generalize idT v.ids=I
  rcases hn with hn | hn | hn | hn | hn
  ·simp only[hn];apply bytes_inj;simp[spc]
  ·simp only[hn];apply bytes_inj;simp[spc]
  ·simp only[hn];apply bytes_inj;simp[spc]
  ·simp only[hn];apply bytes_inj;simp[spc]
  ·simp only[hn];apply bytes_inj;simp[spc]
 unfold lineV textT textW;simp only[h]
 show kConc++endR v=J [kConc,endT v]
 rw[J_two,he];rfl
theorem opG_kind{ws rest:List ByteArray}{o:OpV}(h:opG ws=(o,0,rest)):1≤o.1∧o.1≤7:=by
 cases ws with
 | nil=>simp[opG] at h
 | cons w l=>
   unfold opG at h;dsimp only at h
   split at h
   ·cases h;exact⟨by decide,by decide⟩
   split at h
   ·cases h;exact⟨by decide,by decide⟩
   split at h
   ·rcases hb:behindG tbN l 1 with ⟨k,r⟩
    rw[hb] at h
    cases h
    rcases behindN_inv hb with ⟨rfl,_⟩ | ⟨rfl,_⟩ | ⟨rfl,_⟩<;>exact⟨by dsimp only;decide,by dsimp only;decide⟩
   split at h
   ·simp at h
   split at h
   ·rcases hb:behindG tbL l 2 with ⟨k,r⟩
    rw[hb] at h
    cases h
    rcases behindL_inv hb with ⟨rfl,_⟩ | ⟨rfl,_⟩<;>exact⟨by dsimp only;decide,by dsimp only;decide⟩
   split at h
   ·cases h;exact⟨by dsimp only;decide,by dsimp only;decide⟩
   ·simp at h
theorem polF_kind:∀ (f:Nat) (ws:List ByteArray) (ops:List OpV),(∀ o∈ops,1≤o.1∧o.1≤7)→∀ o∈(polF f ws ops).1,1≤o.1∧o.1≤7
 | 0,ws,ops,h=>h
 | f+1,ws,ops,h=>by
   unfold polF
   split
   ·split
    ·rename_i he
     refine polF_kind f _ _ fun o ho=>?_
     rcases List.mem_append.1 ho with ho | ho
     ·exact h o ho
     ·rw[List.mem_singleton.1 ho];exact opG_kind (rest:=(opG ws).2.2) (by rw[← he])
    ·exact h
   ·exact h
theorem rowG_kind'(ws:List ByteArray)(v:StepV):(rowG ws v).2.2.kind=v.kind:=by
 unfold rowG boundG
 split
 ·split<;>rfl
 ·rfl
theorem idG_pres(ws:List ByteArray)(v:StepV):(idG ws v).2.2.kind=v.kind∧(idG ws v).2.2.n6=v.n6∧((idG ws v).2.2.ids=v.ids∨(idG ws v).2.2.ids.length=1):=by
 unfold idG
 split
 ·split
  ·exact⟨rfl,rfl,.inr rfl⟩
  ·exact⟨rfl,rfl,.inl rfl⟩
 ·exact⟨rfl,rfl,.inl rfl⟩
def RegC(v:StepV):Prop:=v.kind=9∧(v.n6=1∨v.n6=2∨v.n6=3∨v.n6=5∨v.n6=6)∧v.ids.length≤1
theorem regC_id(ws:List ByteArray)(v:StepV)(hk:v.kind=9)(hn:v.n6=1∨v.n6=2∨v.n6=3∨v.n6=5∨v.n6=6)(hi:v.ids=[]):RegC (idG ws v).2.2:=by
 obtain⟨h1,h2,h3⟩:=idG_pres ws v;refine⟨h1.trans hk,by rw[h2];exact hn,?_⟩
 rcases h3 with h3 | h3
 ·rw[h3,hi];exact Nat.zero_le _
 ·rw[h3];exact Nat.le_refl _
theorem conclG_reg{l:List ByteArray}(h:(conclG l zeroV).1=0):RegC (conclG l zeroV).2.2:=by
 cases l with
 | nil=>simp[conclG] at h
 | cons w l=>
   unfold conclG at h ⊢;dsimp only at h ⊢
   split
   ·exact⟨rfl,.inl rfl,Nat.zero_le _⟩
   rename_i k1
   rw[if_neg k1] at h
   split
   ·exact⟨rfl,.inr (.inr (.inl rfl)),Nat.zero_le _⟩
   rename_i k2
   rw[if_neg k2] at h
   split
   ·exact regC_id _ _ rfl (.inr (.inl rfl)) rfl
   rename_i k3
   rw[if_neg k3] at h
   split
   ·unfold allG
    split
    ·split
     ·exact⟨rfl,.inr (.inr (.inr (.inr rfl))),Nat.zero_le _⟩
     ·exact regC_id _ _ rfl (.inr (.inr (.inr (.inr rfl)))) rfl
    ·exact⟨rfl,.inr (.inr (.inr (.inr rfl))),Nat.zero_le _⟩
   rename_i k4
   rw[if_neg k4] at h
   split
   ·unfold boundsG
    split
    ·have hr:=fun ws n=>regC_id ws { zeroV with kind:=9,n6:=5,s7:=n } rfl (.inr (.inr (.inr (.inl rfl)))) rfl
     unfold upG
     split
     ·exact hr _ _
     ·exact hr _ _
    ·exact⟨rfl,.inr (.inr (.inr (.inl rfl))),Nat.zero_le _⟩
   rename_i k5
   rw[if_neg k5] at h;exact absurd (show(80:Int)=0 from h) (by decide)
theorem parse_line{ws:List ByteArray}{v:StepV}(h:parseW ws=(v,0)):lineV v=textT v:=by
 cases ws with
 | nil=>
   simp only[parseW,Prod.mk.injEq] at h;exact line_kinds (.inr (.inl (by rw[← h.1])))
 | cons w l=>
   unfold parseW at h;dsimp only at h
   cases ht:tabG w with
   | none=>rw[ht] at h;simp at h
   | some f=>
     rw[ht] at h;have h:=finG_inv h;have h0:(f l zeroV).1=0:=by rw[h]
     have hv:(f l zeroV).2.2=v:=by rw[h]
     clear h;subst hv;unfold tabG at ht
     by_cases k1:w=kHead
     ·rw[if_pos k1] at ht;cases ht;exact line_kinds (.inl rfl)
     rw[if_neg k1] at ht
     by_cases k1:w=kF
     ·rw[if_pos k1] at ht;cases ht;exact line_count rfl
     rw[if_neg k1] at ht
     by_cases k1:w=kPol
     ·rw[if_pos k1] at ht;cases ht;exact line_pol rfl (polF_kind _ _ _ (by intro o ho;cases ho))
     rw[if_neg k1] at ht
     by_cases k1:w=kRup
     ·rw[if_pos k1] at ht;cases ht;refine line_rup ?_;unfold rupG
      split
      ·show(rowG l _).2.2.kind=4
       rw[rowG_kind']
      ·rw[rowG_kind']
     rw[if_neg k1] at ht
     by_cases k1:w=kSoli
     ·rw[if_pos k1] at ht;cases ht;exact line_sol (.inl rfl)
     rw[if_neg k1] at ht
     by_cases k1:w=kSolx
     ·rw[if_pos k1] at ht;cases ht;exact line_sol (.inr rfl)
     rw[if_neg k1] at ht
     by_cases k1:w=kE
     ·rw[if_pos k1] at ht;cases ht;refine line_same ?_;unfold sameG
      split
      ·rw[rowG_kind']
      ·rfl
     rw[if_neg k1] at ht
     by_cases k1:w=kDel
     ·rw[if_pos k1] at ht;cases ht;refine line_del ?_;unfold delG
      split
      ·split<;>rfl
      ·rfl
     rw[if_neg k1] at ht
     by_cases k1:w=kStar
     ·rw[if_pos k1] at ht;cases ht;exact line_kinds (.inr (.inl rfl))
     rw[if_neg k1] at ht
     by_cases k1:w=kOut
     ·rw[if_pos k1] at ht;cases ht;exact line_kinds (.inr (.inr (.inl rfl)))
     rw[if_neg k1] at ht
     by_cases k1:w=kConc
     ·rw[if_pos k1] at ht;cases ht;obtain⟨r1,r2,r3⟩:=conclG_reg h0;exact line_concl r1 r2 r3
     rw[if_neg k1] at ht
     by_cases k1:w=kEnd
     ·rw[if_pos k1] at ht;cases ht;exact line_kinds (.inr (.inr (.inr rfl)))
     rw[if_neg k1] at ht
     cases ht
theorem parseP_words{s:ByteArray}{v:StepV}(h:parseP s=(v,0)):parseW (wordsL s)=(v,0):=by
 unfold parseP at h
 split at h
 ·rename_i he
  simp only[Prod.mk.injEq,and_true] at h;exact Prod.ext h he
 ·rename_i he
  simp only[Prod.mk.injEq] at h;exact absurd h.2 he
theorem printR{v:StepV}:printP v=if parseP (lineV v)=(v,0) then (lineV v,0) else (ByteArray.empty,83):=by
 by_cases hp:parseP (lineV v)=(v,0)
 ·rw[if_pos hp];have hw:=parseP_words hp;have hl:=parse_line hw;have hno:hasNL (textT v)=false:=by
   rcases parse_text hw with hr | rfl
   ·rw[hr.text];exact J_no _ hr.good
   ·decide +kernel
  rw[hl] at hp ⊢;exact printP_of hp hno
 ·rw[if_neg hp]
  rcases printP_code v with h0 | h0
  ·obtain⟨h1,h2,h3⟩:=printP_zero h0;have hl:=parse_line (parseP_words h2);rw[← hl] at h2;exact absurd h2 hp
  ·have:¬ ((parseP (textT v)).2=0∧hasNL (textT v)=false∧(parseP (textT v)).1=v):=fun hh=>by
    unfold printP at h0;rw[if_pos hh] at h0;exact absurd (show(0:Int)=83 from h0) (by decide)
   unfold printP;rw[if_neg this]
end Go.Proofs.YtogipknpafkfpaaGreatDoor.Aw
